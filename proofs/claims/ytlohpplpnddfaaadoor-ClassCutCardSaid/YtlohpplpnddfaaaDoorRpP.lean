/- The walk of the document's Parse. -/
import Derived.Test.YtlohpplpnddfaaaDoorRpS
import Derived.Test.YtlohpplpnddfaaaDoorRefM
namespace Go.Proofs.YtlohpplpnddfaaaDoor
open Go.RowKit Go.Sort

/-- What the document's Parse answers. -/
def gotC : Got (BitVec 256) → Value
  | .inr (c, n) => .tuple #[.agg #[.int .u64 (wd c 0), .int .u64 (wd c 1), .int .u64 (wd c 2), .int .u64 (wd c 3)], .int .i64 (n : Int), .int .i64 0]
  | .inl (e, n) => .tuple #[.agg #[.int .u64 0, .int .u64 0, .int .u64 0, .int .u64 0], .int .i64 (n : Int), .int .i64 (e : Int)]
theorem refsign_ok (S : ByteArray) (x : Int) (a : Nat) (w : World) (hs : S.size ≤ 140737488355328) (hx : x = a) (hz : a ≤ 140737488355328) {c n : Nat} (hg : sgnAt (bl S) a = .inr (c, n)) :
    Calls Tryd.prog 56 #[.string S, .int .i64 x] w (Ans (.tuple #[.int .i64 (c : Int), .int .i64 (n : Int), .int .i64 0]) w) := by
  subst hx
  have := refsign_any S a w hs hz
  rw [hg] at this
  exact this
theorem refsign_no (S : ByteArray) (x : Int) (a : Nat) (w : World) (hs : S.size ≤ 140737488355328) (hx : x = a) (hz : a ≤ 140737488355328) {e n : Nat} (hg : sgnAt (bl S) a = .inl (e, n)) :
    Calls Tryd.prog 56 #[.string S, .int .i64 x] w (Ans (.tuple #[.int .i64 0, .int .i64 (n : Int), .int .i64 (e : Int)]) w) := by
  subst hx
  have := refsign_any S a w hs hz
  rw [hg] at this
  exact this
theorem wrongAt_code (s : List UInt8) (a : Nat) : (wrongAt s a).1 = 3 ∨ (wrongAt s a).1 = 4 := by
  unfold wrongAt; split <;> simp
theorem lowAt_code {s : List UInt8} {h a e n : Nat} (hg : lowAt s h a = .inl (e, n)) : e = 3 ∨ e = 4 := by
  unfold lowAt at hg
  split at hg
  · have := wrongAt_code s a; simp at hg; rw [hg] at this; exact this
  · cases hg
theorem hexAt_code {s : List UInt8} {a e n : Nat} (hg : hexAt s a = .inl (e, n)) : e = 3 ∨ e = 4 := by
  unfold hexAt at hg
  split at hg
  · have := wrongAt_code s a; simp at hg; rw [hg] at this; exact this
  · exact lowAt_code hg
theorem escAt_code {s : List UInt8} {a e n : Nat} (hg : escAt s a = .inl (e, n)) : e = 3 ∨ e = 4 := by
  unfold escAt at hg
  split at hg
  · cases hg
  split at hg
  · cases hg
  split at hg
  · cases hg
  split at hg
  · cases hg
  split at hg
  · exact hexAt_code hg
  · have := wrongAt_code s a; simp at hg; rw [hg] at this; exact this
theorem sgnAt_code {s : List UInt8} {a e n : Nat} (hg : sgnAt s a = .inl (e, n)) : e = 3 ∨ e = 4 := by
  unfold sgnAt at hg
  split at hg
  · exact escAt_code hg
  split at hg
  · have := wrongAt_code s a; simp at hg; rw [hg] at this; exact this
  · cases hg
/-- The two blocks of the call: what is answered, the class so far. -/
structure Y (c : BitVec 256) (w w' : World) : Prop where
  res : w'.heap[w.heap.size]? = some (.cells #[.int .u64 0, .int .u64 0, .int .u64 0, .int .u64 0] 24 (0, 0))
  cls : w'.heap[w.heap.size + 1]? = some (.cells #[.int .u64 (wd c 0), .int .u64 (wd c 1), .int .u64 (wd c 2), .int .u64 (wd c 3)] 24 (0, 0))
  bel : Below w.heap.size w w'
theorem y_start (w : World) : Y 0#256 w ((w.alloc (.cells #[.int .u64 0, .int .u64 0, .int .u64 0, .int .u64 0] 24)).alloc (.cells #[.int .u64 0, .int .u64 0, .int .u64 0, .int .u64 0] 24)) := by
  refine ⟨?_, ?_, ((Below.refl _ _).alloc (Nat.le_refl _) _).alloc (by simp) _⟩
  · rw [RowKit.Below.heap_alloc _ _ _ (by simp), heap_alloc_new]
  · have := heap_alloc_new (w.alloc (.cells #[.int .u64 0, .int .u64 0, .int .u64 0, .int .u64 0] 24)) (.cells #[.int .u64 0, .int .u64 0, .int .u64 0, .int .u64 0] 24)
    simp only [World.size_alloc, wd_zero] at this ⊢
    exact this
theorem Y.lt {c : BitVec 256} {w w' : World} (h : Y c w w') : w.heap.size + 1 < w'.heap.size := (Array.getElem?_eq_some_iff.1 h.cls).1
theorem Y.below {c : BitVec 256} {w w1 w2 : World} (h : Y c w w1) (hb : Below w1.heap.size w1 w2) : Y c w w2 :=
  ⟨(hb.block _ (by have := h.lt; omega)).trans h.res, (hb.block _ (by have := h.lt; omega)).trans h.cls, below_step h.bel h.bel.size hb⟩
theorem Y.cset {c : BitVec 256} (d : BitVec 256) {w w1 : World} (h : Y c w w1) : Y d w ((((w1.setCell ⟨w.heap.size + 1, 0, none⟩ (.int .u64 (wd d 0))).setCell ⟨w.heap.size + 1, 1, none⟩ (.int .u64 (wd d 1))).setCell ⟨w.heap.size + 1, 2, none⟩ (.int .u64 (wd d 2))).setCell ⟨w.heap.size + 1, 3, none⟩ (.int .u64 (wd d 3))) := by
  have o : ∀ (w2 : World) (k j : Nat) (v : Value), k ≠ w.heap.size + 1 → (w2.setCell ⟨w.heap.size + 1, j, none⟩ v).heap[k]? = w2.heap[k]? := fun w2 k j v hk => heap_setCell_other w2 ⟨w.heap.size + 1, j, none⟩ k v hk
  refine ⟨?_, set4' h.cls, (((h.bel.setCell (by simp) _).setCell (by simp) _).setCell (by simp) _).setCell (by simp) _⟩
  rw [o _ _ _ _ (by omega), o _ _ _ _ (by omega), o _ _ _ _ (by omega), o _ _ _ _ (by omega)]; exact h.res
theorem rbel4 {w w1 : World} (h : Below w.heap.size w w1) (a b c d : Value) : Below w.heap.size w ((((w1.setCell ⟨w.heap.size, 0, none⟩ a).setCell ⟨w.heap.size, 1, none⟩ b).setCell ⟨w.heap.size, 2, none⟩ c).setCell ⟨w.heap.size, 3, none⟩ d) :=
  (((h.setCell (Nat.le_refl _) _).setCell (Nat.le_refl _) _).setCell (Nat.le_refl _) _).setCell (Nat.le_refl _) _
theorem or_upto (c : BitVec 256) (lo k : Nat) (h : lo ≤ k) (hk : k < 256) : c ||| upto lo k ||| rng k k = c ||| upto lo (k + 1) := by
  rw [BitVec.or_assoc, upto_step lo k h hk]
theorem or_upto0 (c : BitVec 256) (lo : Nat) : c ||| upto lo lo = c := by rw [upto, if_pos (Nat.le_refl _), BitVec.or_zero]
theorem upto_all (lo hi : Nat) (h : lo ≤ hi) : upto lo (hi + 1) = rng lo hi := by rw [upto, if_neg (by omega), Nat.add_sub_cancel]
theorem with_int (c : BitVec 256) (n : Nat) (w : World) (h1 : n < 256) : Calls Tryd.prog 52 #[.agg #[.int .u64 (wd c 0), .int .u64 (wd c 1), .int .u64 (wd c 2), .int .u64 (wd c 3)], .int .i64 (n : Int)] w (Ans (.agg #[.int .u64 (wd (c ||| rng n n) 0), .int .u64 (wd (c ||| rng n n) 1), .int .u64 (wd (c ||| rng n n) 2), .int .u64 (wd (c ||| rng n n) 3)]) w) := with_any c n w h1
set_option maxRecDepth 100000 in
set_option maxHeartbeats 1600000 in
theorem refpar_empty (S : ByteArray) (w : World) (hs : S.size = 0) : Calls Tryd.prog 33 #[.string S] w (Ans (gotC (parsed (bl S))) w) := by
  have HO := Lib.hid (show parsed (bl S) = .inl (3, 0) by rw [parsed, byteAt_bge (by omega), if_neg (by decide), wrongAt_bout (by omega), hs])
  rw [HO.out]
  go_enter Tryd.func33, Tryd.ntmps33
  repeat (first | go_values | go_skip | go_guarded | go_step | go_upon)
  exact bodyPost_ret (v := gotC (.inl (3, 0))) (by simp [gotC, results, Tryd.results33, go_sem]) rfl ⟨rfl, (by repeat (first | exact Below.refl _ _ | assumption | refine bal ?_ _ | refine bdr ?_ | refine bdrn ?_ _ | (refine bset ?_ (by first | exact Nat.le_refl _ | (simp; done) | (simp; omega) | omega) _) | refine bstep ?_ (by assumption)))⟩
set_option maxRecDepth 100000 in
set_option maxHeartbeats 1600000 in
theorem refpar_no (S : ByteArray) (w : World) (hs : S.size ≤ 140737488355328) (h0 : 0 < S.size) (hb : byteAt (bl S) 0 ≠ 91) : Calls Tryd.prog 33 #[.string S] w (Ans (gotC (parsed (bl S))) w) := by
  have HO := Lib.hid (show parsed (bl S) = .inl (4, 0) by rw [parsed, if_neg hb, wrongAt_bin h0])
  rw [HO.out]
  have hv := byteAt_ba h0
  have m1 : ((S[0].toNat : Int) == 91) = false := by rw [← hv]; simp; omega
  have m2 : ((S[0].toNat : Int) != 91) = true := by rw [← hv]; simp; omega
  have d0 : ((S.size : Int) == 0) = false := by rw [beq_eq_false_iff_ne]; omega
  clear hv hb
  go_enter Tryd.func33, Tryd.ntmps33
  repeat (first | go_values | go_skip | go_guarded | go_step | go_upon)
  exact bodyPost_ret (v := gotC (.inl (4, 0))) (by simp [gotC, results, Tryd.results33, go_sem]) rfl ⟨rfl, (by repeat (first | exact Below.refl _ _ | assumption | refine bal ?_ _ | refine bdr ?_ | refine bdrn ?_ _ | (refine bset ?_ (by first | exact Nat.le_refl _ | (simp; done) | (simp; omega) | omega) _) | refine bstep ?_ (by assumption)))⟩
/-- What comes of the members. -/
def doneR (nt : Bool) (g : Got (BitVec 256)) : Got (BitVec 256) := match g with
  | .inl e => .inl e
  | .inr (c, n) => .inr (if nt then ~~~c else c, n)
theorem rmems_one {s : List UInt8} {f a : Nat} {c : BitVec 256} (h : byteAt s a = 93) : memsAt s (f + 1) a c = .inr (c, a + 1) := by rw [memsAt, if_pos h]
theorem rmems_bad {s : List UInt8} {f a : Nat} {c : BitVec 256} {er : Nat × Nat} (h : byteAt s a ≠ 93) (hm : memAt s a = .inl er) : memsAt s (f + 1) a c = .inl er := by rw [memsAt, if_neg h, hm]
theorem rmems_on {s : List UInt8} {f a n : Nat} {c m : BitVec 256} (h : byteAt s a ≠ 93) (hm : memAt s a = .inr (m, n)) : memsAt s (f + 1) a c = memsAt s f n (c ||| m) := by rw [memsAt, if_neg h, hm]
theorem rsgn_inl {s : List UInt8} {a : Nat} {er : Nat × Nat} (h : sgnAt s a = .inl er) : memAt s a = .inl er := by unfold memAt; rw [h]
theorem rsgn_hi {s : List UInt8} {a lo n : Nat} (h : sgnAt s a = .inr (lo, n)) : memAt s a = match hiAt s lo n with
    | .inl e => .inl e
    | .inr (hi, m) => if hi < lo then .inl (4, a) else .inr (rng lo hi, m) := by
  unfold memAt
  rw [h]
  rfl
theorem mix_as {c d : BitVec 256} (h : d = ~~~c) (w : World) : Calls Tryd.prog 28 #[.int .i64 2, .agg #[.int .u64 (wd c 0), .int .u64 (wd c 1), .int .u64 (wd c 2), .int .u64 (wd c 3)], .agg #[.int .u64 (wd c 0), .int .u64 (wd c 1), .int .u64 (wd c 2), .int .u64 (wd c 3)]] w (Ans (.agg #[.int .u64 (wd d 0), .int .u64 (wd d 1), .int .u64 (wd d 2), .int .u64 (wd d 3)]) w) := by
  have := mix_any 2 c c w (.inr (.inr rfl))
  rw [show mixed 2 c c = ~~~c from rfl] at this
  subst h
  exact this
set_option maxRecDepth 100000 in
set_option maxHeartbeats 6400000 in
theorem refpar_n (S : ByteArray) (w : World) (hs : S.size ≤ 140737488355328) (h0 : 0 < S.size) (hb : byteAt (bl S) 0 = 91) (h1 : 1 < S.size) (hn : byteAt (bl S) 1 ≠ 94) : Calls Tryd.prog 33 #[.string S] w (Ans (gotC (parsed (bl S))) w) := by
  have hlen := bl_length S
  have HG := Lib.hid (show parsed (bl S) = doneR false (memsAt (bl S) ((bl S).length + 1) 1 0) by
    rw [parsed, if_pos hb, if_neg hn]
    cases memsAt (bl S) ((bl S).length + 1) 1 0 <;> rfl)
  have hv := byteAt_ba h0
  have m1 : ((S[0].toNat : Int) == 91) = true := by rw [← hv]; simp; omega
  have m2 : ((S[0].toNat : Int) != 91) = false := by rw [← hv]; simp; omega
  have d0 : ((S.size : Int) == 0) = false := by rw [beq_eq_false_iff_ne]; omega
  have hv1 := byteAt_ba h1
  have d1 : decide ((1 : Int) < S.size) = true := by simp; omega
  have d4 : (1 : Int) < S.size := by omega
  have m3 : ((S[1].toNat : Int) == 94) = false := by rw [← hv1]; simp; omega
  clear hv hb hv1 hn
  have y0 := y_start w
  generalize hM : memsAt (bl S) ((bl S).length + 1) 1 0 = G at HG
  have HM := Lib.hid hM
  clear hM
  go_enter Tryd.func33, Tryd.ntmps33
  repeat (first | go_values | go_skip | go_guarded | go_step | go_upon)
  go_loopw [6] (fun t wr => ∃ (f a : Nat) (c : BitVec 256), t = .int .i64 (a : Int) ∧ Y c w wr ∧ Hid (memsAt (bl S) f a c = G) ∧ (bl S).length < f + a ∧ a ≤ S.size) (fun t _ => S.size - (intOf t).toNat)
  case atStart => exact ⟨_, 1, 0, rfl, y0, HM, by omega, by omega⟩
  case round =>
    obtain ⟨f, a, c, rfl, y, hG, hf, ha⟩ := hrel
    obtain ⟨f, rfl⟩ : ∃ g, f = g + 1 := ⟨f - 1, by omega⟩
    obtain ⟨cA, fA, zA⟩ := cells_at' y.res
    obtain ⟨cB, fB, zB⟩ := cells_at' y.cls
    by_cases h93 : byteAt (bl S) a = 93
    · have HX := Lib.hid (show G = .inr (c, a + 1) by rw [← hG.out, rmems_one h93])
      have hla : a < S.size := by have := byteAt_in (s := bl S) (a := a) (by omega); rwa [bl_length] at this
      have hva := byteAt_ba hla
      have k1 : decide (S.size ≤ a) = false := by simp; omega
      have k2 : ((S[a].toNat : Int) != 93) = false := by rw [← hva]; simp; omega
      have k3 : ((S[a].toNat : Int) == 93) = true := by rw [← hva]; simp; omega
      clear h93 hva
      repeat (first | go_values | go_skip | go_guarded | go_step | go_upon)
      refine bodyPost_ret (v := gotC (.inr (c, a + 1))) (by simp [gotC, results, Tryd.results33, go_sem, cA, zA]) rfl ?_
      rw [HG.out, HX.out]
      exact ⟨rfl, rbel4 y.bel _ _ _ _⟩
    · have hcond : (decide (S.size ≤ a) = true) ∨ (∃ h : a < S.size, decide (S.size ≤ a) = false ∧ ((S[a].toNat : Int) != 93) = true ∧ ((S[a].toNat : Int) == 93) = false) := by
        rcases Nat.lt_or_ge a S.size with hla | hla
        · right
          have hva := byteAt_ba hla
          refine ⟨hla, by simp; omega, ?_, ?_⟩ <;> rw [← hva] <;> simp <;> omega
        · left; simpa using hla
      cases hsg : sgnAt (bl S) a with
      | inl er =>
        obtain ⟨ec, en⟩ := er
        have HX := Lib.hid (show G = .inl (ec, en) by rw [← hG.out, rmems_bad h93 (rsgn_inl hsg)])
        have HS := Lib.hid hsg
        have hec := sgnAt_code hsg
        have k5 : ((ec : Int) != 0) = true := by simp; omega
        have k6 : ((ec : Int) == 0) = false := by simp; omega
        clear h93 hsg
        rcases hcond with k1 | ⟨hla, k1, k2, k3⟩
        all_goals
          repeat (first | go_values | go_skip | go_guarded | go_step | go_upon)
          refine (refsign_no S (a : Int) a _ hs (by omega) (by omega) HS.out).mono ?_
          rintro e w4 ⟨rfl, hb4⟩
          have y4 := y.below hb4
          obtain ⟨cA4, fA4, zA4⟩ := cells_at' y4.res
          obtain ⟨cB4, fB4, zB4⟩ := cells_at' y4.cls
          dsimp only
          repeat (first | go_values | go_skip | go_guarded | go_step | go_upon)
          refine bodyPost_ret (v := gotC (.inl (ec, en))) (by simp [gotC, results, Tryd.results33, go_sem, cA4, zA4]) rfl ?_
          rw [HG.out, HX.out]
          exact ⟨rfl, rbel4 y4.bel _ _ _ _⟩
      | inr q =>
        obtain ⟨lo, n⟩ := q
        have bd := sgnAt_bd hsg
        by_cases hdash : byteAt (bl S) n = 45
        · have hln : n < S.size := by have := byteAt_in (s := bl S) (a := n) (by omega); rwa [bl_length] at this
          have hvn := byteAt_ba hln
          have k7 : decide (n < S.size) = true := by simp; omega
          have k8 : ((S[n].toNat : Int) == 45) = true := by rw [← hvn]; simp; omega
          cases hsg2 : sgnAt (bl S) (n + 1) with
          | inl er =>
            obtain ⟨ec, en⟩ := er
            have HX := Lib.hid (show G = .inl (ec, en) by rw [← hG.out, rmems_bad h93 (by rw [rsgn_hi hsg, hiAt, if_pos hdash, hsg2])])
            have HS := Lib.hid hsg
            have HS2 := Lib.hid hsg2
            have hec := sgnAt_code hsg2
            have k5 : ((ec : Int) != 0) = true := by simp; omega
            have k6 : ((ec : Int) == 0) = false := by simp; omega
            clear h93 hsg hsg2 hdash hvn
            rcases hcond with k1 | ⟨hla, k1, k2, k3⟩
            all_goals
              repeat (first | go_values | go_skip | go_guarded | go_step | go_upon)
              refine (refsign_ok S (a : Int) a _ hs (by omega) (by omega) HS.out).mono ?_
              rintro e w4 ⟨rfl, hb4⟩
              have y4 := y.below hb4
              obtain ⟨cA4, fA4, zA4⟩ := cells_at' y4.res
              obtain ⟨cB4, fB4, zB4⟩ := cells_at' y4.cls
              dsimp only
              repeat (first | go_values | go_skip | go_guarded | go_step | go_upon)
              refine (refsign_no S _ (n + 1) _ hs (by omega) (by omega) HS2.out).mono ?_
              rintro e w5 ⟨rfl, hb5⟩
              have y5 := y4.below hb5
              obtain ⟨cA5, fA5, zA5⟩ := cells_at' y5.res
              obtain ⟨cB5, fB5, zB5⟩ := cells_at' y5.cls
              dsimp only
              repeat (first | go_values | go_skip | go_guarded | go_step | go_upon)
              refine bodyPost_ret (v := gotC (.inl (ec, en))) (by simp [gotC, results, Tryd.results33, go_sem, cA5, zA5]) rfl ?_
              rw [HG.out, HX.out]
              exact ⟨rfl, rbel4 y5.bel _ _ _ _⟩
          | inr q =>
            obtain ⟨hi, m⟩ := q
            have bd2 := sgnAt_bd hsg2
            have HS := Lib.hid hsg
            have HS2 := Lib.hid hsg2
            rcases Nat.lt_or_ge hi lo with hlt | hle
            · have HX := Lib.hid (show G = .inl (4, a) by rw [← hG.out, rmems_bad h93 (by rw [rsgn_hi hsg, hiAt, if_pos hdash, hsg2]; simp only; rw [if_pos hlt])])
              have k9 : decide (hi < lo) = true := by simpa using hlt
              clear h93 hsg hsg2 hdash hvn
              rcases hcond with k1 | ⟨hla, k1, k2, k3⟩
              all_goals
                repeat (first | go_values | go_skip | go_guarded | go_step | go_upon)
                refine (refsign_ok S (a : Int) a _ hs (by omega) (by omega) HS.out).mono ?_
                rintro e w4 ⟨rfl, hb4⟩
                have y4 := y.below hb4
                obtain ⟨cA4, fA4, zA4⟩ := cells_at' y4.res
                obtain ⟨cB4, fB4, zB4⟩ := cells_at' y4.cls
                dsimp only
                repeat (first | go_values | go_skip | go_guarded | go_step | go_upon)
                refine (refsign_ok S _ (n + 1) _ hs (by omega) (by omega) HS2.out).mono ?_
                rintro e w5 ⟨rfl, hb5⟩
                have y5 := y4.below hb5
                obtain ⟨cA5, fA5, zA5⟩ := cells_at' y5.res
                obtain ⟨cB5, fB5, zB5⟩ := cells_at' y5.cls
                dsimp only
                repeat (first | go_values | go_skip | go_guarded | go_step | go_upon)
                refine bodyPost_ret (v := gotC (.inl (4, a))) (by simp [gotC, results, Tryd.results33, go_sem, cA5, zA5]) rfl ?_
                rw [HG.out, HX.out]
                exact ⟨rfl, rbel4 y5.bel _ _ _ _⟩
            · have HX := Lib.hid (show memsAt (bl S) f m (c ||| rng lo hi) = G by rw [← hG.out, rmems_on h93 (by rw [rsgn_hi hsg, hiAt, if_pos hdash, hsg2]; simp only; rw [if_neg (by omega)])])
              have k9 : decide (hi < lo) = false := by simpa using hle
              clear h93 hsg hsg2 hdash hvn
              rcases hcond with k1 | ⟨hla, k1, k2, k3⟩
              all_goals
                repeat (first | go_values | go_skip | go_guarded | go_step | go_upon)
                refine (refsign_ok S (a : Int) a _ hs (by omega) (by omega) HS.out).mono ?_
                rintro e w4 ⟨rfl, hb4⟩
                have y4 := y.below hb4
                obtain ⟨cA4, fA4, zA4⟩ := cells_at' y4.res
                obtain ⟨cB4, fB4, zB4⟩ := cells_at' y4.cls
                dsimp only
                repeat (first | go_values | go_skip | go_guarded | go_step | go_upon)
                refine (refsign_ok S _ (n + 1) _ hs (by omega) (by omega) HS2.out).mono ?_
                rintro e w5 ⟨rfl, hb5⟩
                have y5 := y4.below hb5
                obtain ⟨cA5, fA5, zA5⟩ := cells_at' y5.res
                obtain ⟨cB5, fB5, zB5⟩ := cells_at' y5.cls
                dsimp only
                repeat (first | go_values | go_skip | go_guarded | go_step | go_upon)
                go_loopw [12] (fun t wq => ∃ q : Nat, lo ≤ q ∧ q ≤ hi + 1 ∧ t = .int .i64 (q : Int) ∧ Y (c ||| upto lo q) w wq) (fun t _ => 256 - (intOf t).toNat)
                case atStart => exact ⟨lo, Nat.le_refl _, by omega, rfl, by rw [or_upto0]; exact y5⟩
                case round =>
                  obtain ⟨q, hq1, hq2, rfl, yq⟩ := hrel
                  obtain ⟨cAq, fAq, zAq⟩ := cells_at' yq.res
                  obtain ⟨cBq, fBq, zBq⟩ := cells_at' yq.cls
                  by_cases hlt : q ≤ hi
                  · have HQ := Lib.hid (or_upto c lo q hq1 (by omega))
                    repeat (first | go_values | go_skip | go_guarded | go_step | go_upon)
                    refine (with_int (c ||| upto lo q) q _ (by omega)).mono ?_
                    rintro e w7 ⟨rfl, hb7⟩
                    have y7 := yq.below hb7
                    obtain ⟨cA7, fA7, zA7⟩ := cells_at' y7.res
                    obtain ⟨cB7, fB7, zB7⟩ := cells_at' y7.cls
                    dsimp only
                    repeat (first | go_values | go_skip | go_guarded | go_step | go_upon)
                    refine ⟨⟨q + 1, by omega, by omega, by go_num, ?_⟩, by simp [intOf]; omega⟩
                    rw [← HQ.out]
                    exact Y.cset _ y7
                  · obtain rfl : q = hi + 1 := by omega
                    rw [upto_all _ _ hle] at yq
                    clear cAq fAq zAq cBq fBq zBq
                    repeat (first | go_values | go_skip | go_guarded | go_step | go_upon)
                    refine ⟨⟨f, m, c ||| rng lo hi, rfl, yq, HX, by omega, by omega⟩, by simp [intOf]; omega⟩
        · have hcond2 : (decide (n < S.size) = false) ∨ (∃ h : n < S.size, decide (n < S.size) = true ∧ ((S[n].toNat : Int) == 45) = false) := by
            rcases Nat.lt_or_ge n S.size with hla | hla
            · right
              have hva := byteAt_ba hla
              refine ⟨hla, by simp; omega, ?_⟩
              rw [← hva]; simp; omega
            · left; simpa using hla
          have HX := Lib.hid (show memsAt (bl S) f n (c ||| rng lo lo) = G by rw [← hG.out, rmems_on (m := rng lo lo) (n := n) h93 (by rw [rsgn_hi hsg, hiAt, if_neg hdash]; simp)])
          have HS := Lib.hid hsg
          have k9 : decide (lo < lo) = false := by simp
          have hle : lo ≤ lo := Nat.le_refl _
          clear h93 hsg hdash
          rcases hcond with k1 | ⟨hla, k1, k2, k3⟩
          all_goals
            rcases hcond2 with k7 | ⟨hln, k7, k8⟩
            all_goals
              repeat (first | go_values | go_skip | go_guarded | go_step | go_upon)
              refine (refsign_ok S (a : Int) a _ hs (by omega) (by omega) HS.out).mono ?_
              rintro e w4 ⟨rfl, hb4⟩
              have y4 := y.below hb4
              obtain ⟨cA4, fA4, zA4⟩ := cells_at' y4.res
              obtain ⟨cB4, fB4, zB4⟩ := cells_at' y4.cls
              dsimp only
              repeat (first | go_values | go_skip | go_guarded | go_step | go_upon)
              go_loopw [12] (fun t wq => ∃ q : Nat, lo ≤ q ∧ q ≤ lo + 1 ∧ t = .int .i64 (q : Int) ∧ Y (c ||| upto lo q) w wq) (fun t _ => 256 - (intOf t).toNat)
              case atStart => exact ⟨lo, Nat.le_refl _, by omega, rfl, by rw [or_upto0]; exact y4⟩
              case round =>
                obtain ⟨q, hq1, hq2, rfl, yq⟩ := hrel
                obtain ⟨cAq, fAq, zAq⟩ := cells_at' yq.res
                obtain ⟨cBq, fBq, zBq⟩ := cells_at' yq.cls
                by_cases hlt : q ≤ lo
                · have HQ := Lib.hid (or_upto c lo q hq1 (by omega))
                  repeat (first | go_values | go_skip | go_guarded | go_step | go_upon)
                  refine (with_int (c ||| upto lo q) q _ (by omega)).mono ?_
                  rintro e w7 ⟨rfl, hb7⟩
                  have y7 := yq.below hb7
                  obtain ⟨cA7, fA7, zA7⟩ := cells_at' y7.res
                  obtain ⟨cB7, fB7, zB7⟩ := cells_at' y7.cls
                  dsimp only
                  repeat (first | go_values | go_skip | go_guarded | go_step | go_upon)
                  refine ⟨⟨q + 1, by omega, by omega, by go_num, ?_⟩, by simp [intOf]; omega⟩
                  rw [← HQ.out]
                  exact Y.cset _ y7
                · obtain rfl : q = lo + 1 := by omega
                  rw [upto_all _ _ hle] at yq
                  clear cAq fAq zAq cBq fBq zBq
                  repeat (first | go_values | go_skip | go_guarded | go_step | go_upon)
                  refine ⟨⟨f, n, c ||| rng lo lo, rfl, yq, HX, by omega, by omega⟩, by simp [intOf]; omega⟩
end Go.Proofs.YtlohpplpnddfaaaDoor
