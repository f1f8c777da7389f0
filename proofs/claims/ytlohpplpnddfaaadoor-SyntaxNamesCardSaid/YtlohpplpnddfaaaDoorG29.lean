/- The walk of the document's Parse behind '[^'. | The walk of the document's classes, as read. -/
import Derived.Test.YtlohpplpnddfaaaDoorG28
import Derived.Test.YtlohpplpnddfaaaDoorG2
import Derived.Test.YtlohpplpnddfaaaDoorG9
import Derived.Test.YtlohpplpnddfaaaDoorG8
namespace Go.Proofs.YtlohpplpnddfaaaDoor
open Go.RowKit Go.Sort

set_option maxRecDepth 100000 in
set_option maxHeartbeats 6400000 in
theorem refpar_y (S : ByteArray) (w : World) (hs : S.size ≤ 140737488355328) (h0 : 0 < S.size) (hb : byteAt (bl S) 0 = 91) (h1 : 1 < S.size) (hn : byteAt (bl S) 1 = 94) : Calls Tryd.prog 33 #[.string S] w (Ans (gotC (parsed (bl S))) w) := by
  have hlen := bl_length S
  have HG := Lib.hid (show parsed (bl S) = doneR true (memsAt (bl S) ((bl S).length + 1) 2 0) by
    rw [parsed, if_pos hb, if_pos hn]
    cases memsAt (bl S) ((bl S).length + 1) 2 0 <;> rfl)
  have hv := byteAt_ba h0
  have m1 : ((S[0].toNat : Int) == 91) = true := by rw [← hv]; simp; omega
  have m2 : ((S[0].toNat : Int) != 91) = false := by rw [← hv]; simp; omega
  have d0 : ((S.size : Int) == 0) = false := by rw [beq_eq_false_iff_ne]; omega
  have hv1 := byteAt_ba h1
  have d1 : decide ((1 : Int) < S.size) = true := by simp; omega
  have d4 : (1 : Int) < S.size := by omega
  have m3 : ((S[1].toNat : Int) == 94) = true := by rw [← hv1]; simp; omega
  clear hv hb hv1 hn
  have y0 := y_start w
  generalize hM : memsAt (bl S) ((bl S).length + 1) 2 0 = G at HG
  have HM := Lib.hid hM
  clear hM
  go_enter Tryd.func33, Tryd.ntmps33
  repeat (first | go_values | go_skip | go_guarded | go_step | go_upon)
  go_loopw [6] (fun t wr => ∃ (f a : Nat) (c : BitVec 256), t = .int .i64 (a : Int) ∧ Y c w wr ∧ Hid (memsAt (bl S) f a c = G) ∧ (bl S).length < f + a ∧ a ≤ S.size) (fun t _ => S.size - (intOf t).toNat)
  case atStart => exact ⟨_, 2, 0, rfl, y0, HM, by omega, by omega⟩
  case round =>
    obtain ⟨f, a, c, rfl, y, hG, hf, ha⟩ := hrel
    obtain ⟨f, rfl⟩ : ∃ g, f = g + 1 := ⟨f - 1, by omega⟩
    obtain ⟨cA, fA, zA⟩ := cells_at' y.res
    obtain ⟨cB, fB, zB⟩ := cells_at' y.cls
    by_cases h93 : byteAt (bl S) a = 93
    · have HX := Lib.hid (show G = .inr (c, a + 1) by rw [← hG.out, rmems_one h93])
      have hla : a < S.size := by have := byteAt_in (s := bl S) (a := a) (by omega); rwa [bl_length] at this
      have hva := byteAt_ba hla
      have k1 : decide (S.size ≤ a) = false := by simp; omega
      have k2 : ((S[a].toNat : Int) != 93) = false := by rw [← hva]; simp; omega
      have k3 : ((S[a].toNat : Int) == 93) = true := by rw [← hva]; simp; omega
      clear h93 hva
      repeat (first | go_values | go_skip | go_guarded | go_step | go_upon)
      obtain ⟨d, hd⟩ : ∃ d, d = ~~~c := ⟨_, rfl⟩
      have HD := Lib.hid hd
      clear hd
      refine (mix_as HD.out _).mono ?_
      rintro e w4 ⟨rfl, hb4⟩
      have y4 := y.below hb4
      clear cA fA zA cB fB zB
      obtain ⟨cA, fA, zA⟩ := cells_at' y4.res
      obtain ⟨cB, fB, zB⟩ := cells_at' y4.cls
      dsimp only
      repeat (first | go_values | go_skip | go_guarded | go_step | go_upon)
      refine bodyPost_ret (v := gotC (.inr (d, a + 1))) (by simp [gotC, results, Tryd.results33, go_sem, cA]) rfl ?_
      rw [HG.out, HX.out, HD.out]
      exact ⟨rfl, rbel4 (Y.cset _ y4).bel _ _ _ _⟩
    · have hcond : (decide (S.size ≤ a) = true) ∨ (∃ h : a < S.size, decide (S.size ≤ a) = false ∧ ((S[a].toNat : Int) != 93) = true ∧ ((S[a].toNat : Int) == 93) = false) := by
        rcases Nat.lt_or_ge a S.size with hla | hla
        · right
          have hva := byteAt_ba hla
          refine ⟨hla, by simp; omega, ?_, ?_⟩ <;> rw [← hva] <;> simp <;> omega
        · left; simpa using hla
      cases hsg : sgnAt (bl S) a with
      | inl er =>
        obtain ⟨ec, en⟩ := er
        have HX := Lib.hid (show G = .inl (ec, en) by rw [← hG.out, rmems_bad h93 (rsgn_inl hsg)])
        have HS := Lib.hid hsg
        have hec := sgnAt_code hsg
        have k5 : ((ec : Int) != 0) = true := by simp; omega
        have k6 : ((ec : Int) == 0) = false := by simp; omega
        clear h93 hsg
        rcases hcond with k1 | ⟨hla, k1, k2, k3⟩
        all_goals
          repeat (first | go_values | go_skip | go_guarded | go_step | go_upon)
          refine (refsign_no S (a : Int) a _ hs (by omega) (by omega) HS.out).mono ?_
          rintro e w4 ⟨rfl, hb4⟩
          have y4 := y.below hb4
          obtain ⟨cA4, fA4, zA4⟩ := cells_at' y4.res
          obtain ⟨cB4, fB4, zB4⟩ := cells_at' y4.cls
          dsimp only
          repeat (first | go_values | go_skip | go_guarded | go_step | go_upon)
          refine bodyPost_ret (v := gotC (.inl (ec, en))) (by simp [gotC, results, Tryd.results33, go_sem, cA4]) rfl ?_
          rw [HG.out, HX.out]
          exact ⟨rfl, rbel4 y4.bel _ _ _ _⟩
      | inr q =>
        obtain ⟨lo, n⟩ := q
        have bd := sgnAt_bd hsg
        by_cases hdash : byteAt (bl S) n = 45
        · have hln : n < S.size := by have := byteAt_in (s := bl S) (a := n) (by omega); rwa [bl_length] at this
          have hvn := byteAt_ba hln
          have k7 : decide (n < S.size) = true := by simp; omega
          have k8 : ((S[n].toNat : Int) == 45) = true := by rw [← hvn]; simp; omega
          cases hsg2 : sgnAt (bl S) (n + 1) with
          | inl er =>
            obtain ⟨ec, en⟩ := er
            have HX := Lib.hid (show G = .inl (ec, en) by rw [← hG.out, rmems_bad h93 (by rw [rsgn_hi hsg, hiAt, if_pos hdash, hsg2])])
            have HS := Lib.hid hsg
            have HS2 := Lib.hid hsg2
            have hec := sgnAt_code hsg2
            have k5 : ((ec : Int) != 0) = true := by simp; omega
            have k6 : ((ec : Int) == 0) = false := by simp; omega
            clear h93 hsg hsg2 hdash hvn
            rcases hcond with k1 | ⟨hla, k1, k2, k3⟩
            all_goals
              repeat (first | go_values | go_skip | go_guarded | go_step | go_upon)
              refine (refsign_ok S (a : Int) a _ hs (by omega) (by omega) HS.out).mono ?_
              rintro e w4 ⟨rfl, hb4⟩
              have y4 := y.below hb4
              obtain ⟨cA4, fA4, zA4⟩ := cells_at' y4.res
              obtain ⟨cB4, fB4, zB4⟩ := cells_at' y4.cls
              dsimp only
              repeat (first | go_values | go_skip | go_guarded | go_step | go_upon)
              refine (refsign_no S _ (n + 1) _ hs (by omega) (by omega) HS2.out).mono ?_
              rintro e w5 ⟨rfl, hb5⟩
              have y5 := y4.below hb5
              obtain ⟨cA5, fA5, zA5⟩ := cells_at' y5.res
              obtain ⟨cB5, fB5, zB5⟩ := cells_at' y5.cls
              dsimp only
              repeat (first | go_values | go_skip | go_guarded | go_step | go_upon)
              refine bodyPost_ret (v := gotC (.inl (ec, en))) (by simp [gotC, results, Tryd.results33, go_sem, cA5]) rfl ?_
              rw [HG.out, HX.out]
              exact ⟨rfl, rbel4 y5.bel _ _ _ _⟩
          | inr q =>
            obtain ⟨hi, m⟩ := q
            have bd2 := sgnAt_bd hsg2
            have HS := Lib.hid hsg
            have HS2 := Lib.hid hsg2
            rcases Nat.lt_or_ge hi lo with hlt | hle
            · have HX := Lib.hid (show G = .inl (4, a) by rw [← hG.out, rmems_bad h93 (by rw [rsgn_hi hsg, hiAt, if_pos hdash, hsg2]; simp only; rw [if_pos hlt])])
              have k9 : decide (hi < lo) = true := by simpa using hlt
              clear h93 hsg hsg2 hdash hvn
              rcases hcond with k1 | ⟨hla, k1, k2, k3⟩
              all_goals
                repeat (first | go_values | go_skip | go_guarded | go_step | go_upon)
                refine (refsign_ok S (a : Int) a _ hs (by omega) (by omega) HS.out).mono ?_
                rintro e w4 ⟨rfl, hb4⟩
                have y4 := y.below hb4
                obtain ⟨cA4, fA4, zA4⟩ := cells_at' y4.res
                obtain ⟨cB4, fB4, zB4⟩ := cells_at' y4.cls
                dsimp only
                repeat (first | go_values | go_skip | go_guarded | go_step | go_upon)
                refine (refsign_ok S _ (n + 1) _ hs (by omega) (by omega) HS2.out).mono ?_
                rintro e w5 ⟨rfl, hb5⟩
                have y5 := y4.below hb5
                obtain ⟨cA5, fA5, zA5⟩ := cells_at' y5.res
                obtain ⟨cB5, fB5, zB5⟩ := cells_at' y5.cls
                dsimp only
                repeat (first | go_values | go_skip | go_guarded | go_step | go_upon)
                refine bodyPost_ret (v := gotC (.inl (4, a))) (by simp [gotC, results, Tryd.results33, go_sem, cA5]) rfl ?_
                rw [HG.out, HX.out]
                exact ⟨rfl, rbel4 y5.bel _ _ _ _⟩
            · have HX := Lib.hid (show memsAt (bl S) f m (c ||| rng lo hi) = G by rw [← hG.out, rmems_on h93 (by rw [rsgn_hi hsg, hiAt, if_pos hdash, hsg2]; simp only; rw [if_neg (by omega)])])
              have k9 : decide (hi < lo) = false := by simpa using hle
              clear h93 hsg hsg2 hdash hvn
              rcases hcond with k1 | ⟨hla, k1, k2, k3⟩
              all_goals
                repeat (first | go_values | go_skip | go_guarded | go_step | go_upon)
                refine (refsign_ok S (a : Int) a _ hs (by omega) (by omega) HS.out).mono ?_
                rintro e w4 ⟨rfl, hb4⟩
                have y4 := y.below hb4
                obtain ⟨cA4, fA4, zA4⟩ := cells_at' y4.res
                obtain ⟨cB4, fB4, zB4⟩ := cells_at' y4.cls
                dsimp only
                repeat (first | go_values | go_skip | go_guarded | go_step | go_upon)
                refine (refsign_ok S _ (n + 1) _ hs (by omega) (by omega) HS2.out).mono ?_
                rintro e w5 ⟨rfl, hb5⟩
                have y5 := y4.below hb5
                obtain ⟨cA5, fA5, zA5⟩ := cells_at' y5.res
                obtain ⟨cB5, fB5, zB5⟩ := cells_at' y5.cls
                dsimp only
                repeat (first | go_values | go_skip | go_guarded | go_step | go_upon)
                go_loopw [12] (fun t wq => ∃ q : Nat, lo ≤ q ∧ q ≤ hi + 1 ∧ t = .int .i64 (q : Int) ∧ Y (c ||| upto lo q) w wq) (fun t _ => 256 - (intOf t).toNat)
                case atStart => exact ⟨lo, Nat.le_refl _, by omega, rfl, by rw [or_upto0]; exact y5⟩
                case round =>
                  obtain ⟨q, hq1, hq2, rfl, yq⟩ := hrel
                  obtain ⟨cAq, fAq, zAq⟩ := cells_at' yq.res
                  obtain ⟨cBq, fBq, zBq⟩ := cells_at' yq.cls
                  by_cases hlt : q ≤ hi
                  · have HQ := Lib.hid (or_upto c lo q hq1 (by omega))
                    repeat (first | go_values | go_skip | go_guarded | go_step | go_upon)
                    refine (with_int (c ||| upto lo q) q _ (by omega)).mono ?_
                    rintro e w7 ⟨rfl, hb7⟩
                    have y7 := yq.below hb7
                    obtain ⟨cA7, fA7, zA7⟩ := cells_at' y7.res
                    obtain ⟨cB7, fB7, zB7⟩ := cells_at' y7.cls
                    dsimp only
                    repeat (first | go_values | go_skip | go_guarded | go_step | go_upon)
                    refine ⟨⟨q + 1, by omega, by omega, by go_num, ?_⟩, by simp [intOf]; omega⟩
                    rw [← HQ.out]
                    exact Y.cset _ y7
                  · obtain rfl : q = hi + 1 := by omega
                    rw [upto_all _ _ hle] at yq
                    clear cAq fAq zAq cBq fBq zBq
                    repeat (first | go_values | go_skip | go_guarded | go_step | go_upon)
                    refine ⟨⟨f, m, c ||| rng lo hi, rfl, yq, HX, by omega, by omega⟩, by simp [intOf]; omega⟩
        · have hcond2 : (decide (n < S.size) = false) ∨ (∃ h : n < S.size, decide (n < S.size) = true ∧ ((S[n].toNat : Int) == 45) = false) := by
            rcases Nat.lt_or_ge n S.size with hla | hla
            · right
              have hva := byteAt_ba hla
              refine ⟨hla, by simp; omega, ?_⟩
              rw [← hva]; simp; omega
            · left; simpa using hla
          have HX := Lib.hid (show memsAt (bl S) f n (c ||| rng lo lo) = G by rw [← hG.out, rmems_on (m := rng lo lo) (n := n) h93 (by rw [rsgn_hi hsg, hiAt, if_neg hdash]; simp)])
          have HS := Lib.hid hsg
          have k9 : decide (lo < lo) = false := by simp
          have hle : lo ≤ lo := Nat.le_refl _
          clear h93 hsg hdash
          rcases hcond with k1 | ⟨hla, k1, k2, k3⟩
          all_goals
            rcases hcond2 with k7 | ⟨hln, k7, k8⟩
            all_goals
              repeat (first | go_values | go_skip | go_guarded | go_step | go_upon)
              refine (refsign_ok S (a : Int) a _ hs (by omega) (by omega) HS.out).mono ?_
              rintro e w4 ⟨rfl, hb4⟩
              have y4 := y.below hb4
              obtain ⟨cA4, fA4, zA4⟩ := cells_at' y4.res
              obtain ⟨cB4, fB4, zB4⟩ := cells_at' y4.cls
              dsimp only
              repeat (first | go_values | go_skip | go_guarded | go_step | go_upon)
              go_loopw [12] (fun t wq => ∃ q : Nat, lo ≤ q ∧ q ≤ lo + 1 ∧ t = .int .i64 (q : Int) ∧ Y (c ||| upto lo q) w wq) (fun t _ => 256 - (intOf t).toNat)
              case atStart => exact ⟨lo, Nat.le_refl _, by omega, rfl, by rw [or_upto0]; exact y4⟩
              case round =>
                obtain ⟨q, hq1, hq2, rfl, yq⟩ := hrel
                obtain ⟨cAq, fAq, zAq⟩ := cells_at' yq.res
                obtain ⟨cBq, fBq, zBq⟩ := cells_at' yq.cls
                by_cases hlt : q ≤ lo
                · have HQ := Lib.hid (or_upto c lo q hq1 (by omega))
                  repeat (first | go_values | go_skip | go_guarded | go_step | go_upon)
                  refine (with_int (c ||| upto lo q) q _ (by omega)).mono ?_
                  rintro e w7 ⟨rfl, hb7⟩
                  have y7 := yq.below hb7
                  obtain ⟨cA7, fA7, zA7⟩ := cells_at' y7.res
                  obtain ⟨cB7, fB7, zB7⟩ := cells_at' y7.cls
                  dsimp only
                  repeat (first | go_values | go_skip | go_guarded | go_step | go_upon)
                  refine ⟨⟨q + 1, by omega, by omega, by go_num, ?_⟩, by simp [intOf]; omega⟩
                  rw [← HQ.out]
                  exact Y.cset _ y7
                · obtain rfl : q = lo + 1 := by omega
                  rw [upto_all _ _ hle] at yq
                  clear cAq fAq zAq cBq fBq zBq
                  repeat (first | go_values | go_skip | go_guarded | go_step | go_upon)
                  refine ⟨⟨f, n, c ||| rng lo lo, rfl, yq, HX, by omega, by omega⟩, by simp [intOf]; omega⟩
end Go.Proofs.YtlohpplpnddfaaaDoor
namespace Go.Proofs.YtlohpplpnddfaaaDoor
open Go.RowKit Go.Sort

set_option maxRecDepth 100000 in
set_option maxHeartbeats 1600000 in
theorem refpar_1 (S : ByteArray) (w : World) (h1 : S.size = 1) (hb : byteAt (bl S) 0 = 91) : Calls Tryd.prog 33 #[.string S] w (Ans (gotC (parsed (bl S))) w) := by
  have hlen := bl_length S
  have e1 : byteAt (bl S) 1 = 256 := byteAt_bge (by omega)
  have hsg : sgnAt (bl S) 1 = .inl (3, 1) := by rw [sgnAt, e1, if_neg (by decide), if_pos (by omega), wrongAt_bout (by omega), h1]
  have HO := Lib.hid (show parsed (bl S) = .inl (3, 1) by
    rw [parsed, if_pos hb, e1, if_neg (by decide), hlen, h1, rmems_bad (by rw [e1]; decide) (rsgn_inl hsg)])
  have HS := Lib.hid hsg
  rw [HO.out]
  have hv := byteAt_ba (S := S) (a := 0) (by omega)
  have h0 : 0 < S.size := by omega
  have m1 : ((S[0].toNat : Int) == 91) = true := by rw [← hv]; simp; omega
  have m2 : ((S[0].toNat : Int) != 91) = false := by rw [← hv]; simp; omega
  have d0 : ((S.size : Int) == 0) = false := by rw [beq_eq_false_iff_ne]; omega
  have d1 : decide ((1 : Int) < S.size) = false := by simp; omega
  have d2 : decide ((S.size : Int) ≤ 1) = true := by simp; omega
  have hs : S.size ≤ 140737488355328 := by omega
  clear hv hb e1 hsg hlen h1
  have y0 := y_start w
  go_enter Tryd.func33, Tryd.ntmps33
  repeat (first | go_values | go_skip | go_guarded | go_step | go_upon)
  refine wp_loop_rounds 1 ?_
  rw [rounds_succ]
  repeat (first | go_values | go_skip | go_guarded | go_step | go_upon)
  refine (refsign_no S 1 1 _ hs (by omega) (by omega) HS.out).mono ?_
  rintro e w4 ⟨rfl, hb4⟩
  have y4 := y0.below hb4
  obtain ⟨cA, fA, zA⟩ := cells_at' y4.res
  dsimp only
  repeat (first | go_values | go_skip | go_guarded | go_step | go_upon)
  refine bodyPost_ret (v := gotC (.inl (3, 1))) (by simp [gotC, results, Tryd.results33, go_sem, cA]) rfl ?_
  exact ⟨rfl, rbel4 y4.bel _ _ _ _⟩
theorem refparse_any (S : ByteArray) (w : World) (hs : S.size ≤ 140737488355328) : Calls Tryd.prog 33 #[.string S] w (Ans (gotC (parsed (bl S))) w) := by
  rcases Nat.eq_zero_or_pos S.size with h0 | h0
  · exact refpar_empty S w h0
  by_cases hb : byteAt (bl S) 0 = 91
  · rcases Nat.lt_or_ge 1 S.size with h1 | h1
    · by_cases hn : byteAt (bl S) 1 = 94
      · exact refpar_y S w hs h0 hb h1 hn
      · exact refpar_n S w hs h0 hb h1 hn
    · exact refpar_1 S w (by omega) hb
  · exact refpar_no S w hs h0 hb
theorem refparse_ok (S : ByteArray) (w : World) (hs : S.size ≤ 140737488355328) {c : BitVec 256} {n : Nat} (hg : parsed (bl S) = .inr (c, n)) :
    Calls Tryd.prog 33 #[.string S] w (Ans (.tuple #[.agg #[.int .u64 (wd c 0), .int .u64 (wd c 1), .int .u64 (wd c 2), .int .u64 (wd c 3)], .int .i64 (n : Int), .int .i64 0]) w) := by
  have := refparse_any S w hs
  rw [hg] at this
  exact this
theorem refparse_no (S : ByteArray) (w : World) (hs : S.size ≤ 140737488355328) {e n : Nat} (hg : parsed (bl S) = .inl (e, n)) :
    Calls Tryd.prog 33 #[.string S] w (Ans (.tuple #[.agg #[.int .u64 0, .int .u64 0, .int .u64 0, .int .u64 0], .int .i64 (n : Int), .int .i64 (e : Int)]) w) := by
  have := refparse_any S w hs
  rw [hg] at this
  exact this
theorem memAt_code {s : List UInt8} {a e n : Nat} (hg : memAt s a = .inl (e, n)) : e = 3 ∨ e = 4 := by
  unfold memAt at hg
  split at hg
  · next h => simp at hg; rw [hg] at h; exact sgnAt_code h
  · next lo k h1 =>
    split at hg
    · next er h =>
      simp at hg
      rw [hg] at h
      unfold hiAt at h
      split at h
      · exact sgnAt_code h
      · cases h
    · split at hg
      · simp at hg; omega
      · cases hg
theorem memsAt_code {s : List UInt8} : ∀ {f a e n : Nat} {c : BitVec 256}, memsAt s f a c = .inl (e, n) → e = 3 ∨ e = 4 := by
  intro f
  induction f with
  | zero => intro a e n c h; simp [memsAt] at h; omega
  | succ f ih =>
    intro a e n c h
    rw [memsAt] at h
    split at h
    · cases h
    · split at h
      · next er hm => simp at h; rw [h] at hm; exact memAt_code hm
      · exact ih h
theorem parsed_code {s : List UInt8} {e n : Nat} (h : parsed s = .inl (e, n)) : e = 3 ∨ e = 4 := by
  unfold parsed at h
  split at h
  · split at h
    · split at h
      · next er hm => simp at h; rw [h] at hm; exact memsAt_code hm
      · cases h
    · exact memsAt_code h
  · have := wrongAt_code s 0; simp at h; rw [h] at this; exact this
theorem fault_c0 {p : Nat} {er : Nat × Nat} {w : World} (h : FaultAt p er w) : w.cell? ⟨p, 0, none⟩ = some (.int .i64 (er.1 : Int)) := (cells_at h).1 0
theorem fault_c1 {p : Nat} {er : Nat × Nat} {w : World} (h : FaultAt p er w) : w.cell? ⟨p, 1, none⟩ = some (.int .i64 (er.2 : Int)) := (cells_at h).1 1
theorem code_at {p : Nat} {er : Nat × Nat} {x : Int} {w : World} (hg : Laid w) (h : FaultAt p er w) (hx : x = (er.1 : Int)) : Calls Tryd.prog 21 #[.iface 90 (.pointer (some ⟨p, 0, none⟩))] w (Ans (.int .i64 x) w) := by
  subst hx; exact code_F p _ w hg (fault_c0 h)
theorem at_at {p : Nat} {er : Nat × Nat} {x : Int} {w : World} (hg : Laid w) (h : FaultAt p er w) (hx : x = (er.2 : Int)) : Calls Tryd.prog 34 #[.iface 90 (.pointer (some ⟨p, 0, none⟩))] w (Ans (.int .i64 x) w) := by
  subst hx; exact at_F p _ w hg (fault_c1 h)
end Go.Proofs.YtlohpplpnddfaaaDoor
