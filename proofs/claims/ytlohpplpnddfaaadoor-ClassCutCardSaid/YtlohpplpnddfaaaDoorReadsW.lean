/- The walk of ClassReads. -/
import Derived.Test.YtlohpplpnddfaaaDoorSmall
import Derived.Test.YtlohpplpnddfaaaDoorEq
import Derived.Test.YtlohpplpnddfaaaDoorAsV
import Derived.Test.YtlohpplpnddfaaaDoorRpQ
import Derived.Test.YtlohpplpnddfaaaDoorParN
namespace Go.Proofs.YtlohpplpnddfaaaDoor
open Go.RowKit Go.Sort

set_option maxRecDepth 100000 in
set_option maxHeartbeats 1600000 in
theorem refpar_1 (S : ByteArray) (w : World) (h1 : S.size = 1) (hb : byteAt (bl S) 0 = 91) : Calls Tryd.prog 33 #[.string S] w (Ans (gotC (parsed (bl S))) w) := by
  have hlen := bl_length S
  have e1 : byteAt (bl S) 1 = 256 := byteAt_bge (by omega)
  have hsg : sgnAt (bl S) 1 = .inl (3, 1) := by rw [sgnAt, e1, if_neg (by decide), if_pos (by omega), wrongAt_bout (by omega), h1]
  have HO := Lib.hid (show parsed (bl S) = .inl (3, 1) by
    rw [parsed, if_pos hb, e1, if_neg (by decide), hlen, h1, rmems_bad (by rw [e1]; decide) (rsgn_inl hsg)])
  have HS := Lib.hid hsg
  rw [HO.out]
  have hv := byteAt_ba (S := S) (a := 0) (by omega)
  have h0 : 0 < S.size := by omega
  have m1 : ((S[0].toNat : Int) == 91) = true := by rw [← hv]; simp; omega
  have m2 : ((S[0].toNat : Int) != 91) = false := by rw [← hv]; simp; omega
  have d0 : ((S.size : Int) == 0) = false := by rw [beq_eq_false_iff_ne]; omega
  have d1 : decide ((1 : Int) < S.size) = false := by simp; omega
  have d2 : decide ((S.size : Int) ≤ 1) = true := by simp; omega
  have hs : S.size ≤ 140737488355328 := by omega
  clear hv hb e1 hsg hlen h1
  have y0 := y_start w
  go_enter Tryd.func33, Tryd.ntmps33
  repeat (first | go_values | go_skip | go_guarded | go_step | go_upon)
  refine wp_loop_rounds 1 ?_
  rw [rounds_succ]
  repeat (first | go_values | go_skip | go_guarded | go_step | go_upon)
  refine (refsign_no S 1 1 _ hs (by omega) (by omega) HS.out).mono ?_
  rintro e w4 ⟨rfl, hb4⟩
  have y4 := y0.below hb4
  obtain ⟨cA, fA, zA⟩ := cells_at' y4.res
  dsimp only
  repeat (first | go_values | go_skip | go_guarded | go_step | go_upon)
  refine bodyPost_ret (v := gotC (.inl (3, 1))) (by simp [gotC, results, Tryd.results33, go_sem, cA, zA]) rfl ?_
  exact ⟨rfl, rbel4 y4.bel _ _ _ _⟩
theorem refparse_any (S : ByteArray) (w : World) (hs : S.size ≤ 140737488355328) : Calls Tryd.prog 33 #[.string S] w (Ans (gotC (parsed (bl S))) w) := by
  rcases Nat.eq_zero_or_pos S.size with h0 | h0
  · exact refpar_empty S w h0
  by_cases hb : byteAt (bl S) 0 = 91
  · rcases Nat.lt_or_ge 1 S.size with h1 | h1
    · by_cases hn : byteAt (bl S) 1 = 94
      · exact refpar_y S w hs h0 hb h1 hn
      · exact refpar_n S w hs h0 hb h1 hn
    · exact refpar_1 S w (by omega) hb
  · exact refpar_no S w hs h0 hb
theorem refparse_ok (S : ByteArray) (w : World) (hs : S.size ≤ 140737488355328) {c : BitVec 256} {n : Nat} (hg : parsed (bl S) = .inr (c, n)) :
    Calls Tryd.prog 33 #[.string S] w (Ans (.tuple #[.agg #[.int .u64 (wd c 0), .int .u64 (wd c 1), .int .u64 (wd c 2), .int .u64 (wd c 3)], .int .i64 (n : Int), .int .i64 0]) w) := by
  have := refparse_any S w hs
  rw [hg] at this
  exact this
theorem refparse_no (S : ByteArray) (w : World) (hs : S.size ≤ 140737488355328) {e n : Nat} (hg : parsed (bl S) = .inl (e, n)) :
    Calls Tryd.prog 33 #[.string S] w (Ans (.tuple #[.agg #[.int .u64 0, .int .u64 0, .int .u64 0, .int .u64 0], .int .i64 (n : Int), .int .i64 (e : Int)]) w) := by
  have := refparse_any S w hs
  rw [hg] at this
  exact this
theorem memAt_code {s : List UInt8} {a e n : Nat} (hg : memAt s a = .inl (e, n)) : e = 3 ∨ e = 4 := by
  unfold memAt at hg
  split at hg
  · next h => simp at hg; rw [hg] at h; exact sgnAt_code h
  · next lo k h1 =>
    split at hg
    · next er h =>
      simp at hg
      rw [hg] at h
      unfold hiAt at h
      split at h
      · exact sgnAt_code h
      · cases h
    · split at hg
      · simp at hg; omega
      · cases hg
theorem memsAt_code {s : List UInt8} : ∀ {f a e n : Nat} {c : BitVec 256}, memsAt s f a c = .inl (e, n) → e = 3 ∨ e = 4 := by
  intro f
  induction f with
  | zero => intro a e n c h; simp [memsAt] at h; omega
  | succ f ih =>
    intro a e n c h
    rw [memsAt] at h
    split at h
    · cases h
    · split at h
      · next er hm => simp at h; rw [h] at hm; exact memAt_code hm
      · exact ih h
theorem parsed_code {s : List UInt8} {e n : Nat} (h : parsed s = .inl (e, n)) : e = 3 ∨ e = 4 := by
  unfold parsed at h
  split at h
  · split at h
    · split at h
      · next er hm => simp at h; rw [h] at hm; exact memsAt_code hm
      · cases h
    · exact memsAt_code h
  · have := wrongAt_code s 0; simp at h; rw [h] at this; exact this
theorem fault_c0 {p : Nat} {er : Nat × Nat} {w : World} (h : FaultAt p er w) : w.cell? ⟨p, 0, none⟩ = some (.int .i64 (er.1 : Int)) := (cells_at h).1 0
theorem fault_c1 {p : Nat} {er : Nat × Nat} {w : World} (h : FaultAt p er w) : w.cell? ⟨p, 1, none⟩ = some (.int .i64 (er.2 : Int)) := (cells_at h).1 1
theorem code_at {p : Nat} {er : Nat × Nat} {x : Int} {w : World} (hg : Laid w) (h : FaultAt p er w) (hx : x = (er.1 : Int)) : Calls Tryd.prog 21 #[.iface 90 (.pointer (some ⟨p, 0, none⟩))] w (Ans (.int .i64 x) w) := by
  subst hx; exact code_F p _ w hg (fault_c0 h)
theorem at_at {p : Nat} {er : Nat × Nat} {x : Int} {w : World} (hg : Laid w) (h : FaultAt p er w) (hx : x = (er.2 : Int)) : Calls Tryd.prog 34 #[.iface 90 (.pointer (some ⟨p, 0, none⟩))] w (Ans (.int .i64 x) w) := by
  subst hx; exact at_F p _ w hg (fault_c1 h)
set_option maxRecDepth 100000 in
set_option maxHeartbeats 1600000 in
theorem reads_any (S : ByteArray) (w : World) (hg : Laid w) (hs : S.size ≤ 140737488351232) : Calls Tryd.prog 5 #[.string S] w (Ans (.bool true) w) := by
  have f5 := guard_cl
  have f6 := equal_cl
  have f7 : ∀ c : BitVec 256, (c == c) = true := fun c => by simp
  have HG := Lib.hid hg
  have hs2 : S.size ≤ 140737488355328 := by omega
  clear hg
  cases hp : parsed (bl S) with
  | inr q =>
    obtain ⟨c, n⟩ := q
    have HP := Lib.hid hp
    clear hp
    go_enter Tryd.func5, Tryd.ntmps5
    repeat (first | go_values | go_skip | go_guarded | go_step | go_upon)
    refine (small_any _).mono ?_
    rintro e w1 ⟨rfl, hb1⟩
    dsimp only
    repeat (first | go_values | go_skip | go_guarded | go_step | go_upon)
    refine (parse_ok S _ hs2 HP.out).mono ?_
    rintro e w2 ⟨rfl, hb2⟩
    dsimp only
    repeat (first | go_values | go_skip | go_guarded | go_step | go_upon)
    refine (refparse_ok S _ hs2 HP.out).mono ?_
    rintro e w3 ⟨rfl, hb3⟩
    obtain ⟨hc3, hf3⟩ := bcell hb3
    have hz3 := hb3.size
    try simp at hz3
    have q3_0 : w2.heap.size < w3.heap.size := by omega
    dsimp only
    repeat (first | go_values | go_skip | go_guarded | go_step | go_upon)
    go_ret
    exact ⟨rfl, (by repeat (first | exact Below.refl _ _ | assumption | refine bal ?_ _ | refine bdr ?_ | refine bdrn ?_ _ | (refine bset ?_ (by first | exact Nat.le_refl _ | (simp; done) | (simp; omega) | omega) _) | refine bstep ?_ (by assumption)))⟩
  | inl er =>
    obtain ⟨ec, en⟩ := er
    have HP := Lib.hid hp
    have hc := parsed_code hp
    have k5 : ((ec : Int) != 0) = true := by simp; omega
    have k6 : ((ec : Int) == 0) = false := by simp; omega
    have z4 : ∀ w, (Op.equalIn 10000 24 (.agg #[.int .u64 0, .int .u64 0, .int .u64 0, .int .u64 0]) (.agg #[.int .u64 0, .int .u64 0, .int .u64 0, .int .u64 0])).run Tryd.prog w = .ok true w := fun w => by rw [equal_cl4]; rfl
    clear hp f6
    go_enter Tryd.func5, Tryd.ntmps5
    repeat (first | go_values | go_skip | go_guarded | go_step | go_upon)
    refine (small_any _).mono ?_
    rintro e w1 ⟨rfl, hb1⟩
    dsimp only
    repeat (first | go_values | go_skip | go_guarded | go_step | go_upon)
    refine (parse_no S _ hs2 HP.out).mono ?_
    rintro e w2 ⟨⟨p, rfl, hp, hl⟩, hb2⟩
    have HF := Lib.hid hp
    clear hp
    dsimp only [cls0]
    repeat (first | go_values | go_skip | go_guarded | go_step | go_upon)
    refine (refparse_no S _ hs2 HP.out).mono ?_
    rintro e w3 ⟨rfl, hb3⟩
    obtain ⟨hc3, hf3⟩ := bcell hb3
    have hz3 := hb3.size
    try simp at hz3
    have q3_0 : w2.heap.size < w3.heap.size := by omega
    dsimp only
    have HW := Lib.hid (fun (W : World) (h : Below w2.heap.size w2 W) => fault_below HF.out h)
    have HL := Lib.hid (fun (W : World) (h : Below w2.heap.size w2 W) => HG.out.below (B := w.heap.size) (bstep (bstep (bstep (Below.refl _ _) hb1) hb2) h) HG.out.pos)
    repeat (first | go_values | go_skip | go_guarded | go_step | go_upon)
    refine (code_at (HL.out _ (by repeat (first | exact Below.refl _ _ | assumption | refine bal ?_ _ | refine bdr ?_ | refine bdrn ?_ _ | (refine bset ?_ (by first | exact Nat.le_refl _ | (simp; done) | (simp; omega) | omega) _) | refine bstep ?_ (by assumption)))) (HW.out _ (by repeat (first | exact Below.refl _ _ | assumption | refine bal ?_ _ | refine bdr ?_ | refine bdrn ?_ _ | (refine bset ?_ (by first | exact Nat.le_refl _ | (simp; done) | (simp; omega) | omega) _) | refine bstep ?_ (by assumption)))) rfl).mono ?_
    rintro e w4 ⟨rfl, hb4⟩
    obtain ⟨hc4, hf4⟩ := bcell hb4
    have hz4 := hb4.size
    try simp at hz4
    have q4_0 : w2.heap.size < w4.heap.size := by omega
    have q4_1 : w3.heap.size < w4.heap.size := by omega
    dsimp only
    repeat (first | go_values | go_skip | go_guarded | go_step | go_upon)
    refine (at_at (HL.out _ (by repeat (first | exact Below.refl _ _ | assumption | refine bal ?_ _ | refine bdr ?_ | refine bdrn ?_ _ | (refine bset ?_ (by first | exact Nat.le_refl _ | (simp; done) | (simp; omega) | omega) _) | refine bstep ?_ (by assumption)))) (HW.out _ (by repeat (first | exact Below.refl _ _ | assumption | refine bal ?_ _ | refine bdr ?_ | refine bdrn ?_ _ | (refine bset ?_ (by first | exact Nat.le_refl _ | (simp; done) | (simp; omega) | omega) _) | refine bstep ?_ (by assumption)))) rfl).mono ?_
    rintro e w5 ⟨rfl, hb5⟩
    obtain ⟨hc5, hf5⟩ := bcell hb5
    have hz5 := hb5.size
    try simp at hz5
    have q5_0 : w2.heap.size < w5.heap.size := by omega
    have q5_1 : w3.heap.size < w5.heap.size := by omega
    dsimp only
    repeat (first | go_values | go_skip | go_guarded | go_step | go_upon)
    go_ret
    exact ⟨rfl, (by repeat (first | exact Below.refl _ _ | assumption | refine bal ?_ _ | refine bdr ?_ | refine bdrn ?_ _ | (refine bset ?_ (by first | exact Nat.le_refl _ | (simp; done) | (simp; omega) | omega) _) | refine bstep ?_ (by assumption)))⟩
end Go.Proofs.YtlohpplpnddfaaaDoor
