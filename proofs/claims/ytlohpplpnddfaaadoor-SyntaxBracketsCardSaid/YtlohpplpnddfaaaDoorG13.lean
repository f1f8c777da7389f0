/- The walk of the document's Parse behind '[^'. | The walk of ClassReads. | What is read well is read alike with more behind it: plain. -/
import Derived.Test.YtlohpplpnddfaaaDoorG12
import Derived.Test.YtlohpplpnddfaaaDoorG10
import Derived.Test.YtlohpplpnddfaaaDoorG1
import Derived.Test.YtlohpplpnddfaaaDoorG6
import Derived.Test.YtlohpplpnddfaaaDoorG5
import Derived.Test.YtlohpplpnddfaaaDoorG0
namespace Go.Proofs.YtlohpplpnddfaaaDoor
open Go.RowKit Go.Sort

set_option maxRecDepth 100000 in
set_option maxHeartbeats 6400000 in
theorem refpar_y (S : ByteArray) (w : World) (hs : S.size ≤ 140737488355328) (h0 : 0 < S.size) (hb : byteAt (bl S) 0 = 91) (h1 : 1 < S.size) (hn : byteAt (bl S) 1 = 94) : Calls Tryd.prog 33 #[.string S] w (Ans (gotC (parsed (bl S))) w) := by
  have hlen := bl_length S
  have HG := Lib.hid (show parsed (bl S) = doneR true (memsAt (bl S) ((bl S).length + 1) 2 0) by
    rw [parsed, if_pos hb, if_pos hn]
    cases memsAt (bl S) ((bl S).length + 1) 2 0 <;> rfl)
  have hv := byteAt_ba h0
  have m1 : ((S[0].toNat : Int) == 91) = true := by rw [← hv]; simp; omega
  have m2 : ((S[0].toNat : Int) != 91) = false := by rw [← hv]; simp; omega
  have d0 : ((S.size : Int) == 0) = false := by rw [beq_eq_false_iff_ne]; omega
  have hv1 := byteAt_ba h1
  have d1 : decide ((1 : Int) < S.size) = true := by simp; omega
  have d4 : (1 : Int) < S.size := by omega
  have m3 : ((S[1].toNat : Int) == 94) = true := by rw [← hv1]; simp; omega
  clear hv hb hv1 hn
  have y0 := y_start w
  generalize hM : memsAt (bl S) ((bl S).length + 1) 2 0 = G at HG
  have HM := Lib.hid hM
  clear hM
  go_enter Tryd.func33, Tryd.ntmps33
  repeat (first | go_values | go_skip | go_guarded | go_step | go_upon)
  go_loopw [6] (fun t wr => ∃ (f a : Nat) (c : BitVec 256), t = .int .i64 (a : Int) ∧ Y c w wr ∧ Hid (memsAt (bl S) f a c = G) ∧ (bl S).length < f + a ∧ a ≤ S.size) (fun t _ => S.size - (intOf t).toNat)
  case atStart => exact ⟨_, 2, 0, rfl, y0, HM, by omega, by omega⟩
  case round =>
    obtain ⟨f, a, c, rfl, y, hG, hf, ha⟩ := hrel
    obtain ⟨f, rfl⟩ : ∃ g, f = g + 1 := ⟨f - 1, by omega⟩
    obtain ⟨cA, fA, zA⟩ := cells_at' y.res
    obtain ⟨cB, fB, zB⟩ := cells_at' y.cls
    by_cases h93 : byteAt (bl S) a = 93
    · have HX := Lib.hid (show G = .inr (c, a + 1) by rw [← hG.out, rmems_one h93])
      have hla : a < S.size := by have := byteAt_in (s := bl S) (a := a) (by omega); rwa [bl_length] at this
      have hva := byteAt_ba hla
      have k1 : decide (S.size ≤ a) = false := by simp; omega
      have k2 : ((S[a].toNat : Int) != 93) = false := by rw [← hva]; simp; omega
      have k3 : ((S[a].toNat : Int) == 93) = true := by rw [← hva]; simp; omega
      clear h93 hva
      repeat (first | go_values | go_skip | go_guarded | go_step | go_upon)
      obtain ⟨d, hd⟩ : ∃ d, d = ~~~c := ⟨_, rfl⟩
      have HD := Lib.hid hd
      clear hd
      refine (mix_as HD.out _).mono ?_
      rintro e w4 ⟨rfl, hb4⟩
      have y4 := y.below hb4
      clear cA fA zA cB fB zB
      obtain ⟨cA, fA, zA⟩ := cells_at' y4.res
      obtain ⟨cB, fB, zB⟩ := cells_at' y4.cls
      dsimp only
      repeat (first | go_values | go_skip | go_guarded | go_step | go_upon)
      refine bodyPost_ret (v := gotC (.inr (d, a + 1))) (by simp [gotC, results, Tryd.results33, go_sem, cA, zA]) rfl ?_
      rw [HG.out, HX.out, HD.out]
      exact ⟨rfl, rbel4 (Y.cset _ y4).bel _ _ _ _⟩
    · have hcond : (decide (S.size ≤ a) = true) ∨ (∃ h : a < S.size, decide (S.size ≤ a) = false ∧ ((S[a].toNat : Int) != 93) = true ∧ ((S[a].toNat : Int) == 93) = false) := by
        rcases Nat.lt_or_ge a S.size with hla | hla
        · right
          have hva := byteAt_ba hla
          refine ⟨hla, by simp; omega, ?_, ?_⟩ <;> rw [← hva] <;> simp <;> omega
        · left; simpa using hla
      cases hsg : sgnAt (bl S) a with
      | inl er =>
        obtain ⟨ec, en⟩ := er
        have HX := Lib.hid (show G = .inl (ec, en) by rw [← hG.out, rmems_bad h93 (rsgn_inl hsg)])
        have HS := Lib.hid hsg
        have hec := sgnAt_code hsg
        have k5 : ((ec : Int) != 0) = true := by simp; omega
        have k6 : ((ec : Int) == 0) = false := by simp; omega
        clear h93 hsg
        rcases hcond with k1 | ⟨hla, k1, k2, k3⟩
        all_goals
          repeat (first | go_values | go_skip | go_guarded | go_step | go_upon)
          refine (refsign_no S (a : Int) a _ hs (by omega) (by omega) HS.out).mono ?_
          rintro e w4 ⟨rfl, hb4⟩
          have y4 := y.below hb4
          obtain ⟨cA4, fA4, zA4⟩ := cells_at' y4.res
          obtain ⟨cB4, fB4, zB4⟩ := cells_at' y4.cls
          dsimp only
          repeat (first | go_values | go_skip | go_guarded | go_step | go_upon)
          refine bodyPost_ret (v := gotC (.inl (ec, en))) (by simp [gotC, results, Tryd.results33, go_sem, cA4, zA4]) rfl ?_
          rw [HG.out, HX.out]
          exact ⟨rfl, rbel4 y4.bel _ _ _ _⟩
      | inr q =>
        obtain ⟨lo, n⟩ := q
        have bd := sgnAt_bd hsg
        by_cases hdash : byteAt (bl S) n = 45
        · have hln : n < S.size := by have := byteAt_in (s := bl S) (a := n) (by omega); rwa [bl_length] at this
          have hvn := byteAt_ba hln
          have k7 : decide (n < S.size) = true := by simp; omega
          have k8 : ((S[n].toNat : Int) == 45) = true := by rw [← hvn]; simp; omega
          cases hsg2 : sgnAt (bl S) (n + 1) with
          | inl er =>
            obtain ⟨ec, en⟩ := er
            have HX := Lib.hid (show G = .inl (ec, en) by rw [← hG.out, rmems_bad h93 (by rw [rsgn_hi hsg, hiAt, if_pos hdash, hsg2])])
            have HS := Lib.hid hsg
            have HS2 := Lib.hid hsg2
            have hec := sgnAt_code hsg2
            have k5 : ((ec : Int) != 0) = true := by simp; omega
            have k6 : ((ec : Int) == 0) = false := by simp; omega
            clear h93 hsg hsg2 hdash hvn
            rcases hcond with k1 | ⟨hla, k1, k2, k3⟩
            all_goals
              repeat (first | go_values | go_skip | go_guarded | go_step | go_upon)
              refine (refsign_ok S (a : Int) a _ hs (by omega) (by omega) HS.out).mono ?_
              rintro e w4 ⟨rfl, hb4⟩
              have y4 := y.below hb4
              obtain ⟨cA4, fA4, zA4⟩ := cells_at' y4.res
              obtain ⟨cB4, fB4, zB4⟩ := cells_at' y4.cls
              dsimp only
              repeat (first | go_values | go_skip | go_guarded | go_step | go_upon)
              refine (refsign_no S _ (n + 1) _ hs (by omega) (by omega) HS2.out).mono ?_
              rintro e w5 ⟨rfl, hb5⟩
              have y5 := y4.below hb5
              obtain ⟨cA5, fA5, zA5⟩ := cells_at' y5.res
              obtain ⟨cB5, fB5, zB5⟩ := cells_at' y5.cls
              dsimp only
              repeat (first | go_values | go_skip | go_guarded | go_step | go_upon)
              refine bodyPost_ret (v := gotC (.inl (ec, en))) (by simp [gotC, results, Tryd.results33, go_sem, cA5, zA5]) rfl ?_
              rw [HG.out, HX.out]
              exact ⟨rfl, rbel4 y5.bel _ _ _ _⟩
          | inr q =>
            obtain ⟨hi, m⟩ := q
            have bd2 := sgnAt_bd hsg2
            have HS := Lib.hid hsg
            have HS2 := Lib.hid hsg2
            rcases Nat.lt_or_ge hi lo with hlt | hle
            · have HX := Lib.hid (show G = .inl (4, a) by rw [← hG.out, rmems_bad h93 (by rw [rsgn_hi hsg, hiAt, if_pos hdash, hsg2]; simp only; rw [if_pos hlt])])
              have k9 : decide (hi < lo) = true := by simpa using hlt
              clear h93 hsg hsg2 hdash hvn
              rcases hcond with k1 | ⟨hla, k1, k2, k3⟩
              all_goals
                repeat (first | go_values | go_skip | go_guarded | go_step | go_upon)
                refine (refsign_ok S (a : Int) a _ hs (by omega) (by omega) HS.out).mono ?_
                rintro e w4 ⟨rfl, hb4⟩
                have y4 := y.below hb4
                obtain ⟨cA4, fA4, zA4⟩ := cells_at' y4.res
                obtain ⟨cB4, fB4, zB4⟩ := cells_at' y4.cls
                dsimp only
                repeat (first | go_values | go_skip | go_guarded | go_step | go_upon)
                refine (refsign_ok S _ (n + 1) _ hs (by omega) (by omega) HS2.out).mono ?_
                rintro e w5 ⟨rfl, hb5⟩
                have y5 := y4.below hb5
                obtain ⟨cA5, fA5, zA5⟩ := cells_at' y5.res
                obtain ⟨cB5, fB5, zB5⟩ := cells_at' y5.cls
                dsimp only
                repeat (first | go_values | go_skip | go_guarded | go_step | go_upon)
                refine bodyPost_ret (v := gotC (.inl (4, a))) (by simp [gotC, results, Tryd.results33, go_sem, cA5, zA5]) rfl ?_
                rw [HG.out, HX.out]
                exact ⟨rfl, rbel4 y5.bel _ _ _ _⟩
            · have HX := Lib.hid (show memsAt (bl S) f m (c ||| rng lo hi) = G by rw [← hG.out, rmems_on h93 (by rw [rsgn_hi hsg, hiAt, if_pos hdash, hsg2]; simp only; rw [if_neg (by omega)])])
              have k9 : decide (hi < lo) = false := by simpa using hle
              clear h93 hsg hsg2 hdash hvn
              rcases hcond with k1 | ⟨hla, k1, k2, k3⟩
              all_goals
                repeat (first | go_values | go_skip | go_guarded | go_step | go_upon)
                refine (refsign_ok S (a : Int) a _ hs (by omega) (by omega) HS.out).mono ?_
                rintro e w4 ⟨rfl, hb4⟩
                have y4 := y.below hb4
                obtain ⟨cA4, fA4, zA4⟩ := cells_at' y4.res
                obtain ⟨cB4, fB4, zB4⟩ := cells_at' y4.cls
                dsimp only
                repeat (first | go_values | go_skip | go_guarded | go_step | go_upon)
                refine (refsign_ok S _ (n + 1) _ hs (by omega) (by omega) HS2.out).mono ?_
                rintro e w5 ⟨rfl, hb5⟩
                have y5 := y4.below hb5
                obtain ⟨cA5, fA5, zA5⟩ := cells_at' y5.res
                obtain ⟨cB5, fB5, zB5⟩ := cells_at' y5.cls
                dsimp only
                repeat (first | go_values | go_skip | go_guarded | go_step | go_upon)
                go_loopw [12] (fun t wq => ∃ q : Nat, lo ≤ q ∧ q ≤ hi + 1 ∧ t = .int .i64 (q : Int) ∧ Y (c ||| upto lo q) w wq) (fun t _ => 256 - (intOf t).toNat)
                case atStart => exact ⟨lo, Nat.le_refl _, by omega, rfl, by rw [or_upto0]; exact y5⟩
                case round =>
                  obtain ⟨q, hq1, hq2, rfl, yq⟩ := hrel
                  obtain ⟨cAq, fAq, zAq⟩ := cells_at' yq.res
                  obtain ⟨cBq, fBq, zBq⟩ := cells_at' yq.cls
                  by_cases hlt : q ≤ hi
                  · have HQ := Lib.hid (or_upto c lo q hq1 (by omega))
                    repeat (first | go_values | go_skip | go_guarded | go_step | go_upon)
                    refine (with_int (c ||| upto lo q) q _ (by omega)).mono ?_
                    rintro e w7 ⟨rfl, hb7⟩
                    have y7 := yq.below hb7
                    obtain ⟨cA7, fA7, zA7⟩ := cells_at' y7.res
                    obtain ⟨cB7, fB7, zB7⟩ := cells_at' y7.cls
                    dsimp only
                    repeat (first | go_values | go_skip | go_guarded | go_step | go_upon)
                    refine ⟨⟨q + 1, by omega, by omega, by go_num, ?_⟩, by simp [intOf]; omega⟩
                    rw [← HQ.out]
                    exact Y.cset _ y7
                  · obtain rfl : q = hi + 1 := by omega
                    rw [upto_all _ _ hle] at yq
                    clear cAq fAq zAq cBq fBq zBq
                    repeat (first | go_values | go_skip | go_guarded | go_step | go_upon)
                    refine ⟨⟨f, m, c ||| rng lo hi, rfl, yq, HX, by omega, by omega⟩, by simp [intOf]; omega⟩
        · have hcond2 : (decide (n < S.size) = false) ∨ (∃ h : n < S.size, decide (n < S.size) = true ∧ ((S[n].toNat : Int) == 45) = false) := by
            rcases Nat.lt_or_ge n S.size with hla | hla
            · right
              have hva := byteAt_ba hla
              refine ⟨hla, by simp; omega, ?_⟩
              rw [← hva]; simp; omega
            · left; simpa using hla
          have HX := Lib.hid (show memsAt (bl S) f n (c ||| rng lo lo) = G by rw [← hG.out, rmems_on (m := rng lo lo) (n := n) h93 (by rw [rsgn_hi hsg, hiAt, if_neg hdash]; simp)])
          have HS := Lib.hid hsg
          have k9 : decide (lo < lo) = false := by simp
          have hle : lo ≤ lo := Nat.le_refl _
          clear h93 hsg hdash
          rcases hcond with k1 | ⟨hla, k1, k2, k3⟩
          all_goals
            rcases hcond2 with k7 | ⟨hln, k7, k8⟩
            all_goals
              repeat (first | go_values | go_skip | go_guarded | go_step | go_upon)
              refine (refsign_ok S (a : Int) a _ hs (by omega) (by omega) HS.out).mono ?_
              rintro e w4 ⟨rfl, hb4⟩
              have y4 := y.below hb4
              obtain ⟨cA4, fA4, zA4⟩ := cells_at' y4.res
              obtain ⟨cB4, fB4, zB4⟩ := cells_at' y4.cls
              dsimp only
              repeat (first | go_values | go_skip | go_guarded | go_step | go_upon)
              go_loopw [12] (fun t wq => ∃ q : Nat, lo ≤ q ∧ q ≤ lo + 1 ∧ t = .int .i64 (q : Int) ∧ Y (c ||| upto lo q) w wq) (fun t _ => 256 - (intOf t).toNat)
              case atStart => exact ⟨lo, Nat.le_refl _, by omega, rfl, by rw [or_upto0]; exact y4⟩
              case round =>
                obtain ⟨q, hq1, hq2, rfl, yq⟩ := hrel
                obtain ⟨cAq, fAq, zAq⟩ := cells_at' yq.res
                obtain ⟨cBq, fBq, zBq⟩ := cells_at' yq.cls
                by_cases hlt : q ≤ lo
                · have HQ := Lib.hid (or_upto c lo q hq1 (by omega))
                  repeat (first | go_values | go_skip | go_guarded | go_step | go_upon)
                  refine (with_int (c ||| upto lo q) q _ (by omega)).mono ?_
                  rintro e w7 ⟨rfl, hb7⟩
                  have y7 := yq.below hb7
                  obtain ⟨cA7, fA7, zA7⟩ := cells_at' y7.res
                  obtain ⟨cB7, fB7, zB7⟩ := cells_at' y7.cls
                  dsimp only
                  repeat (first | go_values | go_skip | go_guarded | go_step | go_upon)
                  refine ⟨⟨q + 1, by omega, by omega, by go_num, ?_⟩, by simp [intOf]; omega⟩
                  rw [← HQ.out]
                  exact Y.cset _ y7
                · obtain rfl : q = lo + 1 := by omega
                  rw [upto_all _ _ hle] at yq
                  clear cAq fAq zAq cBq fBq zBq
                  repeat (first | go_values | go_skip | go_guarded | go_step | go_upon)
                  refine ⟨⟨f, n, c ||| rng lo lo, rfl, yq, HX, by omega, by omega⟩, by simp [intOf]; omega⟩
end Go.Proofs.YtlohpplpnddfaaaDoor
namespace Go.Proofs.YtlohpplpnddfaaaDoor
open Go.RowKit Go.Sort

set_option maxRecDepth 100000 in
set_option maxHeartbeats 1600000 in
theorem refpar_1 (S : ByteArray) (w : World) (h1 : S.size = 1) (hb : byteAt (bl S) 0 = 91) : Calls Tryd.prog 33 #[.string S] w (Ans (gotC (parsed (bl S))) w) := by
  have hlen := bl_length S
  have e1 : byteAt (bl S) 1 = 256 := byteAt_bge (by omega)
  have hsg : sgnAt (bl S) 1 = .inl (3, 1) := by rw [sgnAt, e1, if_neg (by decide), if_pos (by omega), wrongAt_bout (by omega), h1]
  have HO := Lib.hid (show parsed (bl S) = .inl (3, 1) by
    rw [parsed, if_pos hb, e1, if_neg (by decide), hlen, h1, rmems_bad (by rw [e1]; decide) (rsgn_inl hsg)])
  have HS := Lib.hid hsg
  rw [HO.out]
  have hv := byteAt_ba (S := S) (a := 0) (by omega)
  have h0 : 0 < S.size := by omega
  have m1 : ((S[0].toNat : Int) == 91) = true := by rw [← hv]; simp; omega
  have m2 : ((S[0].toNat : Int) != 91) = false := by rw [← hv]; simp; omega
  have d0 : ((S.size : Int) == 0) = false := by rw [beq_eq_false_iff_ne]; omega
  have d1 : decide ((1 : Int) < S.size) = false := by simp; omega
  have d2 : decide ((S.size : Int) ≤ 1) = true := by simp; omega
  have hs : S.size ≤ 140737488355328 := by omega
  clear hv hb e1 hsg hlen h1
  have y0 := y_start w
  go_enter Tryd.func33, Tryd.ntmps33
  repeat (first | go_values | go_skip | go_guarded | go_step | go_upon)
  refine wp_loop_rounds 1 ?_
  rw [rounds_succ]
  repeat (first | go_values | go_skip | go_guarded | go_step | go_upon)
  refine (refsign_no S 1 1 _ hs (by omega) (by omega) HS.out).mono ?_
  rintro e w4 ⟨rfl, hb4⟩
  have y4 := y0.below hb4
  obtain ⟨cA, fA, zA⟩ := cells_at' y4.res
  dsimp only
  repeat (first | go_values | go_skip | go_guarded | go_step | go_upon)
  refine bodyPost_ret (v := gotC (.inl (3, 1))) (by simp [gotC, results, Tryd.results33, go_sem, cA, zA]) rfl ?_
  exact ⟨rfl, rbel4 y4.bel _ _ _ _⟩
theorem refparse_any (S : ByteArray) (w : World) (hs : S.size ≤ 140737488355328) : Calls Tryd.prog 33 #[.string S] w (Ans (gotC (parsed (bl S))) w) := by
  rcases Nat.eq_zero_or_pos S.size with h0 | h0
  · exact refpar_empty S w h0
  by_cases hb : byteAt (bl S) 0 = 91
  · rcases Nat.lt_or_ge 1 S.size with h1 | h1
    · by_cases hn : byteAt (bl S) 1 = 94
      · exact refpar_y S w hs h0 hb h1 hn
      · exact refpar_n S w hs h0 hb h1 hn
    · exact refpar_1 S w (by omega) hb
  · exact refpar_no S w hs h0 hb
theorem refparse_ok (S : ByteArray) (w : World) (hs : S.size ≤ 140737488355328) {c : BitVec 256} {n : Nat} (hg : parsed (bl S) = .inr (c, n)) :
    Calls Tryd.prog 33 #[.string S] w (Ans (.tuple #[.agg #[.int .u64 (wd c 0), .int .u64 (wd c 1), .int .u64 (wd c 2), .int .u64 (wd c 3)], .int .i64 (n : Int), .int .i64 0]) w) := by
  have := refparse_any S w hs
  rw [hg] at this
  exact this
theorem refparse_no (S : ByteArray) (w : World) (hs : S.size ≤ 140737488355328) {e n : Nat} (hg : parsed (bl S) = .inl (e, n)) :
    Calls Tryd.prog 33 #[.string S] w (Ans (.tuple #[.agg #[.int .u64 0, .int .u64 0, .int .u64 0, .int .u64 0], .int .i64 (n : Int), .int .i64 (e : Int)]) w) := by
  have := refparse_any S w hs
  rw [hg] at this
  exact this
theorem memAt_code {s : List UInt8} {a e n : Nat} (hg : memAt s a = .inl (e, n)) : e = 3 ∨ e = 4 := by
  unfold memAt at hg
  split at hg
  · next h => simp at hg; rw [hg] at h; exact sgnAt_code h
  · next lo k h1 =>
    split at hg
    · next er h =>
      simp at hg
      rw [hg] at h
      unfold hiAt at h
      split at h
      · exact sgnAt_code h
      · cases h
    · split at hg
      · simp at hg; omega
      · cases hg
theorem memsAt_code {s : List UInt8} : ∀ {f a e n : Nat} {c : BitVec 256}, memsAt s f a c = .inl (e, n) → e = 3 ∨ e = 4 := by
  intro f
  induction f with
  | zero => intro a e n c h; simp [memsAt] at h; omega
  | succ f ih =>
    intro a e n c h
    rw [memsAt] at h
    split at h
    · cases h
    · split at h
      · next er hm => simp at h; rw [h] at hm; exact memAt_code hm
      · exact ih h
theorem parsed_code {s : List UInt8} {e n : Nat} (h : parsed s = .inl (e, n)) : e = 3 ∨ e = 4 := by
  unfold parsed at h
  split at h
  · split at h
    · split at h
      · next er hm => simp at h; rw [h] at hm; exact memsAt_code hm
      · cases h
    · exact memsAt_code h
  · have := wrongAt_code s 0; simp at h; rw [h] at this; exact this
theorem fault_c0 {p : Nat} {er : Nat × Nat} {w : World} (h : FaultAt p er w) : w.cell? ⟨p, 0, none⟩ = some (.int .i64 (er.1 : Int)) := (cells_at h).1 0
theorem fault_c1 {p : Nat} {er : Nat × Nat} {w : World} (h : FaultAt p er w) : w.cell? ⟨p, 1, none⟩ = some (.int .i64 (er.2 : Int)) := (cells_at h).1 1
theorem code_at {p : Nat} {er : Nat × Nat} {x : Int} {w : World} (hg : Laid w) (h : FaultAt p er w) (hx : x = (er.1 : Int)) : Calls Tryd.prog 21 #[.iface 90 (.pointer (some ⟨p, 0, none⟩))] w (Ans (.int .i64 x) w) := by
  subst hx; exact code_F p _ w hg (fault_c0 h)
theorem at_at {p : Nat} {er : Nat × Nat} {x : Int} {w : World} (hg : Laid w) (h : FaultAt p er w) (hx : x = (er.2 : Int)) : Calls Tryd.prog 34 #[.iface 90 (.pointer (some ⟨p, 0, none⟩))] w (Ans (.int .i64 x) w) := by
  subst hx; exact at_F p _ w hg (fault_c1 h)
set_option maxRecDepth 100000 in
set_option maxHeartbeats 1600000 in
theorem reads_any (S : ByteArray) (w : World) (hg : Laid w) (hs : S.size ≤ 140737488351232) : Calls Tryd.prog 5 #[.string S] w (Ans (.bool true) w) := by
  have f5 := guard_cl
  have f6 := equal_cl
  have f7 : ∀ c : BitVec 256, (c == c) = true := fun c => by simp
  have HG := Lib.hid hg
  have hs2 : S.size ≤ 140737488355328 := by omega
  clear hg
  cases hp : parsed (bl S) with
  | inr q =>
    obtain ⟨c, n⟩ := q
    have HP := Lib.hid hp
    clear hp
    go_enter Tryd.func5, Tryd.ntmps5
    repeat (first | go_values | go_skip | go_guarded | go_step | go_upon)
    refine (small_any _).mono ?_
    rintro e w1 ⟨rfl, hb1⟩
    dsimp only
    repeat (first | go_values | go_skip | go_guarded | go_step | go_upon)
    refine (parse_ok S _ hs2 HP.out).mono ?_
    rintro e w2 ⟨rfl, hb2⟩
    dsimp only
    repeat (first | go_values | go_skip | go_guarded | go_step | go_upon)
    refine (refparse_ok S _ hs2 HP.out).mono ?_
    rintro e w3 ⟨rfl, hb3⟩
    obtain ⟨hc3, hf3⟩ := bcell hb3
    have hz3 := hb3.size
    try simp at hz3
    have q3_0 : w2.heap.size < w3.heap.size := by omega
    dsimp only
    repeat (first | go_values | go_skip | go_guarded | go_step | go_upon)
    go_ret
    exact ⟨rfl, (by repeat (first | exact Below.refl _ _ | assumption | refine bal ?_ _ | refine bdr ?_ | refine bdrn ?_ _ | (refine bset ?_ (by first | exact Nat.le_refl _ | (simp; done) | (simp; omega) | omega) _) | refine bstep ?_ (by assumption)))⟩
  | inl er =>
    obtain ⟨ec, en⟩ := er
    have HP := Lib.hid hp
    have hc := parsed_code hp
    have k5 : ((ec : Int) != 0) = true := by simp; omega
    have k6 : ((ec : Int) == 0) = false := by simp; omega
    have z4 : ∀ w, (Op.equalIn 10000 24 (.agg #[.int .u64 0, .int .u64 0, .int .u64 0, .int .u64 0]) (.agg #[.int .u64 0, .int .u64 0, .int .u64 0, .int .u64 0])).run Tryd.prog w = .ok true w := fun w => by rw [equal_cl4]; rfl
    clear hp f6
    go_enter Tryd.func5, Tryd.ntmps5
    repeat (first | go_values | go_skip | go_guarded | go_step | go_upon)
    refine (small_any _).mono ?_
    rintro e w1 ⟨rfl, hb1⟩
    dsimp only
    repeat (first | go_values | go_skip | go_guarded | go_step | go_upon)
    refine (parse_no S _ hs2 HP.out).mono ?_
    rintro e w2 ⟨⟨p, rfl, hp, hl⟩, hb2⟩
    have HF := Lib.hid hp
    clear hp
    dsimp only [cls0]
    repeat (first | go_values | go_skip | go_guarded | go_step | go_upon)
    refine (refparse_no S _ hs2 HP.out).mono ?_
    rintro e w3 ⟨rfl, hb3⟩
    obtain ⟨hc3, hf3⟩ := bcell hb3
    have hz3 := hb3.size
    try simp at hz3
    have q3_0 : w2.heap.size < w3.heap.size := by omega
    dsimp only
    have HW := Lib.hid (fun (W : World) (h : Below w2.heap.size w2 W) => fault_below HF.out h)
    have HL := Lib.hid (fun (W : World) (h : Below w2.heap.size w2 W) => HG.out.below (B := w.heap.size) (bstep (bstep (bstep (Below.refl _ _) hb1) hb2) h) HG.out.pos)
    repeat (first | go_values | go_skip | go_guarded | go_step | go_upon)
    refine (code_at (HL.out _ (by repeat (first | exact Below.refl _ _ | assumption | refine bal ?_ _ | refine bdr ?_ | refine bdrn ?_ _ | (refine bset ?_ (by first | exact Nat.le_refl _ | (simp; done) | (simp; omega) | omega) _) | refine bstep ?_ (by assumption)))) (HW.out _ (by repeat (first | exact Below.refl _ _ | assumption | refine bal ?_ _ | refine bdr ?_ | refine bdrn ?_ _ | (refine bset ?_ (by first | exact Nat.le_refl _ | (simp; done) | (simp; omega) | omega) _) | refine bstep ?_ (by assumption)))) rfl).mono ?_
    rintro e w4 ⟨rfl, hb4⟩
    obtain ⟨hc4, hf4⟩ := bcell hb4
    have hz4 := hb4.size
    try simp at hz4
    have q4_0 : w2.heap.size < w4.heap.size := by omega
    have q4_1 : w3.heap.size < w4.heap.size := by omega
    dsimp only
    repeat (first | go_values | go_skip | go_guarded | go_step | go_upon)
    refine (at_at (HL.out _ (by repeat (first | exact Below.refl _ _ | assumption | refine bal ?_ _ | refine bdr ?_ | refine bdrn ?_ _ | (refine bset ?_ (by first | exact Nat.le_refl _ | (simp; done) | (simp; omega) | omega) _) | refine bstep ?_ (by assumption)))) (HW.out _ (by repeat (first | exact Below.refl _ _ | assumption | refine bal ?_ _ | refine bdr ?_ | refine bdrn ?_ _ | (refine bset ?_ (by first | exact Nat.le_refl _ | (simp; done) | (simp; omega) | omega) _) | refine bstep ?_ (by assumption)))) rfl).mono ?_
    rintro e w5 ⟨rfl, hb5⟩
    obtain ⟨hc5, hf5⟩ := bcell hb5
    have hz5 := hb5.size
    try simp at hz5
    have q5_0 : w2.heap.size < w5.heap.size := by omega
    have q5_1 : w3.heap.size < w5.heap.size := by omega
    dsimp only
    repeat (first | go_values | go_skip | go_guarded | go_step | go_upon)
    go_ret
    exact ⟨rfl, (by repeat (first | exact Below.refl _ _ | assumption | refine bal ?_ _ | refine bdr ?_ | refine bdrn ?_ _ | (refine bset ?_ (by first | exact Nat.le_refl _ | (simp; done) | (simp; omega) | omega) _) | refine bstep ?_ (by assumption)))⟩
end Go.Proofs.YtlohpplpnddfaaaDoor
namespace Go.Proofs.YtlohpplpnddfaaaDoor
open Go.RowKit

theorem byteAt_ext {s x : List UInt8} {a : Nat} (h : a < s.length) : byteAt (s ++ x) a = byteAt s a := by
  unfold byteAt; rw [List.getElem?_append_left h]
theorem low_ext {s x : List UInt8} {h a c n : Nat} (e : lowAt s h a = .inr (c, n)) : lowAt (s ++ x) h a = .inr (c, n) := by
  unfold lowAt at *
  split at e
  · cases e
  · next hd => rw [byteAt_ext (byteAt_in (digV_in hd)), if_neg hd]; exact e
theorem hex_ext {s x : List UInt8} {a c n : Nat} (e : hexAt s a = .inr (c, n)) : hexAt (s ++ x) a = .inr (c, n) := by
  unfold hexAt at *
  split at e
  · cases e
  · next hd => rw [byteAt_ext (byteAt_in (digV_in hd)), if_neg hd]; exact low_ext e
theorem esc_ext {s x : List UInt8} {a c n : Nat} (e : escAt s a = .inr (c, n)) : escAt (s ++ x) a = .inr (c, n) := by
  have hb := escAt_bd e
  unfold escAt at *
  rw [byteAt_ext (by omega)]
  split at e
  · next h => rw [if_pos h]; exact e
  next g1 =>
  rw [if_neg g1]
  split at e
  · next h => rw [if_pos h]; exact e
  next g2 =>
  rw [if_neg g2]
  split at e
  · next h => rw [if_pos h]; exact e
  next g3 =>
  rw [if_neg g3]
  split at e
  · next h => rw [if_pos h]; exact e
  next g4 =>
  rw [if_neg g4]
  split at e
  · next h => rw [if_pos h]; exact hex_ext e
  · cases e
theorem sgn_ext {s x : List UInt8} {a c n : Nat} (e : sgnAt s a = .inr (c, n)) : sgnAt (s ++ x) a = .inr (c, n) := by
  have hb := sgnAt_bd e
  unfold sgnAt at *
  rw [byteAt_ext (by omega)]
  split at e
  · next h => rw [if_pos h]; exact esc_ext e
  next g1 =>
  rw [if_neg g1]
  split at e
  · cases e
  · next h => rw [if_neg h]; exact e
theorem hi_ext {s x : List UInt8} {lo a c n : Nat} (ha : a < s.length) (e : hiAt s lo a = .inr (c, n)) : hiAt (s ++ x) lo a = .inr (c, n) := by
  unfold hiAt at *
  rw [byteAt_ext ha]
  split at e
  · next h => rw [if_pos h]; exact sgn_ext e
  · next h => rw [if_neg h]; exact e
theorem mem_ext {s x : List UInt8} {a n : Nat} {m : BitVec 256} (e : memAt s a = .inr (m, n)) (hn : n < s.length) : memAt (s ++ x) a = .inr (m, n) := by
  unfold memAt at *
  split at e
  · cases e
  next lo p h1 =>
  have b1 := sgnAt_bd h1
  rw [sgn_ext h1]
  simp only
  split at e
  · cases e
  next hi q h2 =>
  have b2 := hiAt_bd (by omega) (by omega) h2
  split at e
  · cases e
  next h3 =>
  simp at e
  rw [hi_ext (by omega) h2]
  simp only
  rw [if_neg h3, e.1, e.2]
theorem mems_ext {s x : List UInt8} : ∀ {f g a n : Nat} {c m : BitVec 256}, memsAt s f a c = .inr (m, n) → f ≤ g → memsAt (s ++ x) g a c = .inr (m, n) := by
  intro f
  induction f with
  | zero => intro g a n c m h; cases h
  | succ f ih =>
    intro g a n c m h hg
    obtain ⟨g, rfl⟩ : ∃ j, g = j + 1 := ⟨g - 1, by omega⟩
    rw [memsAt] at h ⊢
    split at h
    · next h93 =>
      have := byteAt_in (s := s) (a := a) (by omega)
      rw [byteAt_ext this, if_pos h93]
      exact h
    next h93 =>
    split at h
    · cases h
    next m' n' e =>
    have b1 := memAt_bd e
    have b2 := memsAt_bd h
    rw [byteAt_ext (by omega), if_neg h93, mem_ext e (by omega)]
    simp only
    exact ih h (by omega)
theorem parsed_ext {s x : List UInt8} {c : BitVec 256} {n : Nat} (h : parsed s = .inr (c, n)) : parsed (s ++ x) = .inr (c, n) := by
  have hb := parsed_bd h
  unfold parsed at *
  rw [byteAt_ext (by omega), byteAt_ext (by omega)]
  split at h
  · next h0 =>
    rw [if_pos h0]
    split at h
    · next h1 =>
      rw [if_pos h1]
      split at h
      · cases h
      · next e =>
        rw [mems_ext e (by rw [List.length_append]; omega)]
        exact h
    · next h1 =>
      rw [if_neg h1]
      exact mems_ext h (by rw [List.length_append]; omega)
  · cases h
theorem lesc_ext {s x : List UInt8} {a c n : Nat} (e : lescAt s a = .inr (c, n)) : lescAt (s ++ x) a = .inr (c, n) := by
  have hb := lescAt_bd e
  unfold lescAt at *
  rw [byteAt_ext (by omega)]
  split at e
  · next h => rw [if_pos h]; exact e
  next g1 =>
  rw [if_neg g1]
  split at e
  · next h => rw [if_pos h]; exact e
  next g2 =>
  rw [if_neg g2]
  split at e
  · next h => rw [if_pos h]; exact e
  next g3 =>
  rw [if_neg g3]
  split at e
  · next h => rw [if_pos h]; exact e
  next g4 =>
  rw [if_neg g4]
  split at e
  · next h => rw [if_pos h]; exact hex_ext e
  · cases e
theorem lch_ext {s x : List UInt8} {a c n : Nat} (e : lchAt s a = .inr (c, n)) : lchAt (s ++ x) a = .inr (c, n) := by
  have hb := lchAt_bd e
  unfold lchAt at *
  rw [byteAt_ext (by omega)]
  split at e
  · next h => rw [if_pos h]; exact lesc_ext e
  next g1 =>
  rw [if_neg g1]
  split at e
  · cases e
  · next h => rw [if_neg h]; exact e
theorem lit_ext {s x : List UInt8} {q st : Nat} : ∀ {f g a n : Nat} {l m : List UInt8}, litGo s q st f a l = .inr (m, n) → f ≤ g → litGo (s ++ x) q st g a l = .inr (m, n) := by
  intro f
  induction f with
  | zero => intro g a n l m h; cases h
  | succ f ih =>
    intro g a n l m h hg
    obtain ⟨g, rfl⟩ : ∃ j, g = j + 1 := ⟨g - 1, by omega⟩
    rw [litGo] at h ⊢
    split at h
    · cases h
    next hl =>
    rw [if_neg (by rw [List.length_append]; omega), byteAt_ext (by omega)]
    split at h
    · next hq => rw [if_pos hq]; exact h
    next hq =>
    rw [if_neg hq]
    split at h
    · cases h
    next c k e =>
    rw [lch_ext e]
    simp only
    split at h
    · cases h
    · next h5 => rw [if_neg h5]; exact ih h (by omega)
/-- Behind a source that is read well a new line changes nothing. -/
theorem name_ext {s x : List UInt8} {a : Nat} (ha : a ≤ s.length) : nameLen (s ++ 10 :: x) a = nameLen s a := by
  have h := nameLen_spec s a
  have hin := nameLen_in s a ha
  apply nameLen_is
  · intro j hj
    have h1 := h.1 j hj
    rw [byteAt_ext (byteAt_in (cont_in h1))]
    exact h1
  · rcases Nat.lt_or_ge (a + nameLen s a) s.length with hl | hl
    · rw [byteAt_ext hl]; exact h.2
    · have e : a + nameLen s a = s.length := by omega
      have : byteAt (s ++ 10 :: x) (a + nameLen s a) = 10 := by rw [e]; simp [byteAt]
      rw [this]
      simp [cont, isLet, isDig]
theorem tok_ext {s x : List UInt8} {a n : Nat} {t : Tok} (ha : a < s.length) (e : tokAt s a = .inr (t, n)) : tokAt (s ++ 10 :: x) a = .inr (t, n) := by
  have hin := nameLen_in s a (by omega)
  unfold tokAt at *
  rw [name_ext (by omega), byteAt_ext ha]
  split at e
  · cases e
  next g1 =>
  rw [if_neg g1]
  split at e
  · next h =>
    rw [if_pos h, List.drop_append_of_le_length (by omega), List.take_append_of_le_length (by rw [List.length_drop]; omega)]
    exact e
  next g2 =>
  rw [if_neg g2]
  split at e
  · next h => rw [if_pos h]; exact e
  next g3 =>
  rw [if_neg g3]
  split at e
  · next h =>
    have h1 := byteAt_in (s := s) (a := a + 1) (by omega)
    rw [byteAt_ext h1, if_pos h]; exact e
  next g4 =>
  have g4' : ¬ (byteAt s a = 60 ∧ byteAt (s ++ 10 :: x) (a + 1) = 45) := by
    rintro ⟨h1, h2⟩
    rcases Nat.lt_or_ge (a + 1) s.length with hl | hl
    · rw [byteAt_ext hl] at h2; exact g4 ⟨h1, h2⟩
    · have e2 : a + 1 = s.length := by omega
      have : byteAt (s ++ 10 :: x) (a + 1) = 10 := by rw [e2]; simp [byteAt]
      omega
  rw [if_neg g4']
  split at e
  · next h =>
    rw [if_pos h]
    split at e
    · cases e
    · next l k hl => rw [lit_ext hl (by rw [List.length_append]; omega)]; exact e
  next g5 =>
  rw [if_neg g5]
  split at e
  · next h =>
    rw [if_pos h, List.drop_append_of_le_length (by omega)]
    split at e
    · cases e
    · next c k hc => rw [parsed_ext hc]; exact e
  · cases e
theorem index_ext {l y : List UInt8} {c : UInt8} {n : Nat} (h : Lib.indexByte l c = n) : Lib.indexByte (l ++ y) c = n := by
  induction l generalizing n with
  | nil => simp [Lib.indexByte] at h
  | cons b l ih =>
    rw [List.cons_append]
    unfold Lib.indexByte at h ⊢
    split at h
    · next hb => rw [if_pos hb]; exact h
    next hb =>
    rw [if_neg hb]
    split at h
    · omega
    next h2 =>
    have := Lib.indexByte_ge l c
    have h2' : Lib.indexByte l c ≠ -1 := by simpa using h2
    obtain ⟨m, rfl⟩ : ∃ m, n = m + 1 := ⟨n - 1, by omega⟩
    have h3 := ih (n := m) (by omega)
    rw [h3]
    have : ¬ ((m : Int) == -1) = true := by simp
    rw [if_neg this]
    omega
theorem index_end {l y : List UInt8} {c : UInt8} (h : Lib.indexByte l c = -1) : Lib.indexByte (l ++ c :: y) c = (l.length : Nat) := by
  induction l with
  | nil => simp [Lib.indexByte]
  | cons b l ih =>
    rw [List.cons_append]
    unfold Lib.indexByte at h ⊢
    split at h
    · cases h
    next hb =>
    rw [if_neg hb]
    split at h
    · next h2 =>
      have h3 := ih (eq_of_beq h2)
      rw [h3]
      have : ¬ (((l.length : Nat) : Int) == -1) = true := by simp
      rw [if_neg this]
      simp
    · next h2 => have := Lib.indexByte_ge l c; omega
theorem note_ext {s x : List UInt8} {a : Nat} (ha : a ≤ s.length) : noteEnd (s ++ 10 :: x) a = noteEnd s a := by
  unfold noteEnd
  rw [List.drop_append_of_le_length ha]
  rcases Int.lt_or_le (Lib.indexByte (s.drop a) 10) 0 with h | h
  · have h1 : Lib.indexByte (s.drop a) 10 = -1 := by have := Lib.indexByte_ge (s.drop a) 10; omega
    rw [index_end h1, h1, if_pos (by omega), if_neg (by decide), List.length_drop]
    simp
    omega
  · obtain ⟨n, hn⟩ := Int.eq_ofNat_of_zero_le h
    rw [index_ext hn, hn, if_pos (by omega), if_pos (by omega)]
end Go.Proofs.YtlohpplpnddfaaaDoor
