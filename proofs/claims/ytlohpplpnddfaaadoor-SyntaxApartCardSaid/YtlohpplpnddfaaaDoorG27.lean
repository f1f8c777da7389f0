/- The walks of the document's digit and sign. -/
import Derived.Test.YtlohpplpnddfaaaDoorG26
import Derived.Test.YtlohpplpnddfaaaDoorG3
namespace Go.Proofs.YtlohpplpnddfaaaDoor
open Go.RowKit Go.Sort

/-- What the document's functions answer. -/
def gotV : Got Nat → Value
  | .inr (c, n) => .tuple #[.int .i64 (c : Int), .int .i64 (n : Int), .int .i64 0]
  | .inl (e, n) => .tuple #[.int .i64 0, .int .i64 (n : Int), .int .i64 (e : Int)]
set_option maxRecDepth 100000 in
set_option maxHeartbeats 1600000 in
theorem dig_yes (n : Nat) (w : World) (hn : n < 256) (h : digV n ≠ 16) : Calls Tryd.prog 82 #[.int .u8 (n : Int)] w (Ans (.int .i64 (digV n : Int)) w) := by
  by_cases h1 : 48 ≤ n ∧ n ≤ 57
  · have e : digV n = n - 48 := by rw [digV, if_pos h1]
    rw [e]
    have d1 : decide ((48 : Int) ≤ n) = true := by simp; omega
    have d2 : decide ((n : Int) ≤ 57) = true := by simp; omega
    clear h e
    go_enter Tryd.func82, Tryd.ntmps82
    repeat (first | go_values | go_skip | go_guarded | go_step | go_upon)
    go_ret
    exact ⟨ret_int (by omega), (by repeat (first | exact Below.refl _ _ | assumption | refine bal ?_ _ | refine bdr ?_ | refine bdrn ?_ _ | (refine bset ?_ (by first | exact Nat.le_refl _ | (simp; done) | (simp; omega) | omega) _) | refine bstep ?_ (by assumption)))⟩
  · have h2 : 97 ≤ n ∧ n ≤ 102 := by
      unfold digV at h
      rw [if_neg h1] at h
      split at h
      · assumption
      · exact absurd rfl h
    have e : digV n = n - 87 := by rw [digV, if_neg h1, if_pos h2]
    rw [e]
    have d1 : decide ((48 : Int) ≤ n) = true := by simp; omega
    have d2 : decide ((n : Int) ≤ 57) = false := by simp; omega
    have d3 : decide ((97 : Int) ≤ n) = true := by simp; omega
    have d4 : decide ((n : Int) ≤ 102) = true := by simp; omega
    clear h e h1
    go_enter Tryd.func82, Tryd.ntmps82
    repeat (first | go_values | go_skip | go_guarded | go_step | go_upon)
    go_ret
    exact ⟨ret_int (by omega), (by repeat (first | exact Below.refl _ _ | assumption | refine bal ?_ _ | refine bdr ?_ | refine bdrn ?_ _ | (refine bset ?_ (by first | exact Nat.le_refl _ | (simp; done) | (simp; omega) | omega) _) | refine bstep ?_ (by assumption)))⟩
set_option maxRecDepth 100000 in
set_option maxHeartbeats 1600000 in
theorem dig_no (n : Nat) (w : World) (hn : n < 256) (h : digV n = 16) : Calls Tryd.prog 82 #[.int .u8 (n : Int)] w (Ans (.int .i64 (-1)) w) := by
  have h1 : ¬ (48 ≤ n ∧ n ≤ 57) := by
    intro h1
    rw [digV, if_pos h1] at h
    omega
  have h2 : ¬ (97 ≤ n ∧ n ≤ 102) := by
    intro h2
    rw [digV, if_neg h1, if_pos h2] at h
    omega
  have hk : n < 48 ∨ (57 < n ∧ n < 97) ∨ 102 < n := by omega
  clear h h1 h2
  rcases hk with hk | hk | hk
  · have d1 : decide ((48 : Int) ≤ n) = false := by simp; omega
    have d3 : decide ((97 : Int) ≤ n) = false := by simp; omega
    clear hk
    go_enter Tryd.func82, Tryd.ntmps82
    repeat (first | go_values | go_skip | go_guarded | go_step | go_upon)
    go_ret
    exact ⟨rfl, (by repeat (first | exact Below.refl _ _ | assumption | refine bal ?_ _ | refine bdr ?_ | refine bdrn ?_ _ | (refine bset ?_ (by first | exact Nat.le_refl _ | (simp; done) | (simp; omega) | omega) _) | refine bstep ?_ (by assumption)))⟩
  · have d1 : decide ((48 : Int) ≤ n) = true := by simp; omega
    have d2 : decide ((n : Int) ≤ 57) = false := by simp; omega
    have d3 : decide ((97 : Int) ≤ n) = false := by simp; omega
    clear hk
    go_enter Tryd.func82, Tryd.ntmps82
    repeat (first | go_values | go_skip | go_guarded | go_step | go_upon)
    go_ret
    exact ⟨rfl, (by repeat (first | exact Below.refl _ _ | assumption | refine bal ?_ _ | refine bdr ?_ | refine bdrn ?_ _ | (refine bset ?_ (by first | exact Nat.le_refl _ | (simp; done) | (simp; omega) | omega) _) | refine bstep ?_ (by assumption)))⟩
  · have d1 : decide ((48 : Int) ≤ n) = true := by simp; omega
    have d2 : decide ((n : Int) ≤ 57) = false := by simp; omega
    have d3 : decide ((97 : Int) ≤ n) = true := by simp; omega
    have d4 : decide ((n : Int) ≤ 102) = false := by simp; omega
    clear hk
    go_enter Tryd.func82, Tryd.ntmps82
    repeat (first | go_values | go_skip | go_guarded | go_step | go_upon)
    go_ret
    exact ⟨rfl, (by repeat (first | exact Below.refl _ _ | assumption | refine bal ?_ _ | refine bdr ?_ | refine bdrn ?_ _ | (refine bset ?_ (by first | exact Nat.le_refl _ | (simp; done) | (simp; omega) | omega) _) | refine bstep ?_ (by assumption)))⟩
set_option maxRecDepth 100000 in
set_option maxHeartbeats 1600000 in
theorem rs_out (S : ByteArray) (a : Nat) (w : World) (_ : S.size ≤ 140737488355328) (_ : a ≤ 140737488355328) (ha : S.size ≤ a) :
    Calls Tryd.prog 56 #[.string S, .int .i64 (a : Int)] w (Ans (gotV (sgnAt (bl S) a)) w) := by
  have d1 : decide (S.size ≤ a) = true := by simpa using ha
  have HO := Lib.hid (show sgnAt (bl S) a = .inl (3, S.size) by rw [sgnAt, byteAt_bge ha, if_neg (by decide), if_pos (by omega), wrongAt_bout ha])
  rw [HO.out]
  clear HO ha
  go_enter Tryd.func56, Tryd.ntmps56
  repeat (first | go_values | go_skip | go_guarded | go_step | go_upon)
  go_ret3
  exact ⟨rfl, (by repeat (first | exact Below.refl _ _ | assumption | refine bal ?_ _ | refine bdr ?_ | refine bdrn ?_ _ | (refine bset ?_ (by first | exact Nat.le_refl _ | (simp; done) | (simp; omega) | omega) _) | refine bstep ?_ (by assumption)))⟩
set_option maxRecDepth 100000 in
set_option maxHeartbeats 1600000 in
theorem rs_five (S : ByteArray) (a : Nat) (w : World) (_ : S.size ≤ 140737488355328) (ha : a < S.size) (h92 : byteAt (bl S) a ≠ 92) (h5 : fiveB (byteAt (bl S) a) = true) :
    Calls Tryd.prog 56 #[.string S, .int .i64 (a : Int)] w (Ans (gotV (sgnAt (bl S) a)) w) := by
  have d1 : decide (S.size ≤ a) = false := by simpa using ha
  have hv := byteAt_ba ha
  have h256 := UInt8.toNat_lt S[a]
  have m1 : ((S[a].toNat : Int) == 92) = false := by rw [← hv]; simp; omega
  have m2 : ((S[a].toNat : Int) != 92) = true := by rw [← hv]; simp; omega
  have H5 := Lib.hid (show fiveB S[a].toNat = true by rw [← hv]; exact h5)
  have HO := Lib.hid (show sgnAt (bl S) a = .inl (4, a) by rw [sgnAt, if_neg h92, if_pos (.inl h5), wrongAt_bin ha])
  rw [HO.out]
  clear HO h92 h5 hv
  go_enter Tryd.func56, Tryd.ntmps56
  repeat (first | go_values | go_skip | go_guarded | go_step | go_upon)
  refine (five_any _ true _ H5.out).mono ?_
  rintro e w1 ⟨rfl, hb1⟩
  dsimp only
  repeat (first | go_values | go_skip | go_guarded | go_step | go_upon)
  go_ret3
  exact ⟨rfl, (by repeat (first | exact Below.refl _ _ | assumption | refine bal ?_ _ | refine bdr ?_ | refine bdrn ?_ _ | (refine bset ?_ (by first | exact Nat.le_refl _ | (simp; done) | (simp; omega) | omega) _) | refine bstep ?_ (by assumption)))⟩
set_option maxRecDepth 100000 in
set_option maxHeartbeats 1600000 in
theorem rs_lt (S : ByteArray) (a : Nat) (w : World) (_ : S.size ≤ 140737488355328) (ha : a < S.size) (h92 : byteAt (bl S) a ≠ 92) (h5 : fiveB (byteAt (bl S) a) = false) (hl : byteAt (bl S) a < 32) :
    Calls Tryd.prog 56 #[.string S, .int .i64 (a : Int)] w (Ans (gotV (sgnAt (bl S) a)) w) := by
  have d1 : decide (S.size ≤ a) = false := by simpa using ha
  have hv := byteAt_ba ha
  have h256 := UInt8.toNat_lt S[a]
  have m1 : ((S[a].toNat : Int) == 92) = false := by rw [← hv]; simp; omega
  have m2 : ((S[a].toNat : Int) != 92) = true := by rw [← hv]; simp; omega
  have d2 : decide ((S[a].toNat : Int) < 32) = true := by rw [← hv]; simp; omega
  have H5 := Lib.hid (show fiveB S[a].toNat = false by rw [← hv]; exact h5)
  have HO := Lib.hid (show sgnAt (bl S) a = .inl (4, a) by rw [sgnAt, if_neg h92, if_pos (.inr (.inl hl)), wrongAt_bin ha])
  rw [HO.out]
  clear HO h92 h5 hv hl
  go_enter Tryd.func56, Tryd.ntmps56
  repeat (first | go_values | go_skip | go_guarded | go_step | go_upon)
  refine (five_any _ false _ H5.out).mono ?_
  rintro e w1 ⟨rfl, hb1⟩
  dsimp only
  repeat (first | go_values | go_skip | go_guarded | go_step | go_upon)
  go_ret3
  exact ⟨rfl, (by repeat (first | exact Below.refl _ _ | assumption | refine bal ?_ _ | refine bdr ?_ | refine bdrn ?_ _ | (refine bset ?_ (by first | exact Nat.le_refl _ | (simp; done) | (simp; omega) | omega) _) | refine bstep ?_ (by assumption)))⟩
set_option maxRecDepth 100000 in
set_option maxHeartbeats 1600000 in
theorem rs_gt (S : ByteArray) (a : Nat) (w : World) (_ : S.size ≤ 140737488355328) (ha : a < S.size) (h92 : byteAt (bl S) a ≠ 92) (h5 : fiveB (byteAt (bl S) a) = false) (hl : 126 < byteAt (bl S) a) :
    Calls Tryd.prog 56 #[.string S, .int .i64 (a : Int)] w (Ans (gotV (sgnAt (bl S) a)) w) := by
  have d1 : decide (S.size ≤ a) = false := by simpa using ha
  have hv := byteAt_ba ha
  have h256 := UInt8.toNat_lt S[a]
  have m1 : ((S[a].toNat : Int) == 92) = false := by rw [← hv]; simp; omega
  have m2 : ((S[a].toNat : Int) != 92) = true := by rw [← hv]; simp; omega
  have d2 : decide ((S[a].toNat : Int) < 32) = false := by rw [← hv]; simp; omega
  have d3 : decide ((126 : Int) < S[a].toNat) = true := by rw [← hv]; simp; omega
  have H5 := Lib.hid (show fiveB S[a].toNat = false by rw [← hv]; exact h5)
  have HO := Lib.hid (show sgnAt (bl S) a = .inl (4, a) by rw [sgnAt, if_neg h92, if_pos (.inr (.inr hl)), wrongAt_bin ha])
  rw [HO.out]
  clear HO h92 h5 hv hl
  go_enter Tryd.func56, Tryd.ntmps56
  repeat (first | go_values | go_skip | go_guarded | go_step | go_upon)
  refine (five_any _ false _ H5.out).mono ?_
  rintro e w1 ⟨rfl, hb1⟩
  dsimp only
  repeat (first | go_values | go_skip | go_guarded | go_step | go_upon)
  go_ret3
  exact ⟨rfl, (by repeat (first | exact Below.refl _ _ | assumption | refine bal ?_ _ | refine bdr ?_ | refine bdrn ?_ _ | (refine bset ?_ (by first | exact Nat.le_refl _ | (simp; done) | (simp; omega) | omega) _) | refine bstep ?_ (by assumption)))⟩
set_option maxRecDepth 100000 in
set_option maxHeartbeats 1600000 in
theorem rs_ok (S : ByteArray) (a : Nat) (w : World) (hs : S.size ≤ 140737488355328) (ha : a < S.size) (h92 : byteAt (bl S) a ≠ 92) (h5 : fiveB (byteAt (bl S) a) = false) (h1 : ¬ byteAt (bl S) a < 32) (h2 : ¬ 126 < byteAt (bl S) a) :
    Calls Tryd.prog 56 #[.string S, .int .i64 (a : Int)] w (Ans (gotV (sgnAt (bl S) a)) w) := by
  have d1 : decide (S.size ≤ a) = false := by simpa using ha
  have hv := byteAt_ba ha
  have h256 := UInt8.toNat_lt S[a]
  have m1 : ((S[a].toNat : Int) == 92) = false := by rw [← hv]; simp; omega
  have m2 : ((S[a].toNat : Int) != 92) = true := by rw [← hv]; simp; omega
  have d2 : decide ((S[a].toNat : Int) < 32) = false := by rw [← hv]; simp; omega
  have d3 : decide ((126 : Int) < S[a].toNat) = false := by rw [← hv]; simp; omega
  have H5 := Lib.hid (show fiveB S[a].toNat = false by rw [← hv]; exact h5)
  have HO := Lib.hid (show sgnAt (bl S) a = .inr (S[a].toNat, a + 1) by rw [sgnAt, if_neg h92, if_neg (by rw [h5]; simp; omega), hv])
  rw [HO.out]
  clear HO h92 h5 h1 h2 hv
  go_enter Tryd.func56, Tryd.ntmps56
  repeat (first | go_values | go_skip | go_guarded | go_step | go_upon)
  refine (five_any _ false _ H5.out).mono ?_
  rintro e w1 ⟨rfl, hb1⟩
  dsimp only
  repeat (first | go_values | go_skip | go_guarded | go_step | go_upon)
  go_ret3
  exact ⟨rfl, (by repeat (first | exact Below.refl _ _ | assumption | refine bal ?_ _ | refine bdr ?_ | refine bdrn ?_ _ | (refine bset ?_ (by first | exact Nat.le_refl _ | (simp; done) | (simp; omega) | omega) _) | refine bstep ?_ (by assumption)))⟩
set_option maxRecDepth 100000 in
set_option maxHeartbeats 1600000 in
theorem rs_end (S : ByteArray) (a : Nat) (w : World) (hs : S.size ≤ 140737488355328) (ha : a < S.size) (h92 : byteAt (bl S) a = 92) (hb : S.size ≤ a + 1) :
    Calls Tryd.prog 56 #[.string S, .int .i64 (a : Int)] w (Ans (gotV (sgnAt (bl S) a)) w) := by
  have d1 : decide (S.size ≤ a) = false := by simpa using ha
  have hv := byteAt_ba ha
  have h256 := UInt8.toNat_lt S[a]
  have m1 : ((S[a].toNat : Int) == 92) = true := by rw [← hv]; simp; omega
  have m2 : ((S[a].toNat : Int) != 92) = false := by rw [← hv]; simp; omega
  have H5 := Lib.hid (show fiveB S[a].toNat = true by rw [← hv, h92]; rfl)
  have d2 : decide ((S.size : Int) ≤ (a : Int) + 1) = true := by simp; omega
  have d3 : decide (S.size ≤ a + 1) = true := by simp; omega
  have HO := Lib.hid (show sgnAt (bl S) a = .inl (3, S.size) by rw [sgnAt, if_pos h92, escAt, byteAt_bge hb, if_neg (by decide), if_neg (by decide), if_neg (by decide), if_neg (by decide), if_neg (by decide), wrongAt_bout hb])
  rw [HO.out]
  clear HO h92 hv hb
  go_enter Tryd.func56, Tryd.ntmps56
  repeat (first | go_values | go_skip | go_guarded | go_step | go_upon)
  refine (five_any _ true _ H5.out).mono ?_
  rintro e w1 ⟨rfl, hb1⟩
  dsimp only
  repeat (first | go_values | go_skip | go_guarded | go_step | go_upon)
  go_ret3
  exact ⟨rfl, (by repeat (first | exact Below.refl _ _ | assumption | refine bal ?_ _ | refine bdr ?_ | refine bdrn ?_ _ | (refine bset ?_ (by first | exact Nat.le_refl _ | (simp; done) | (simp; omega) | omega) _) | refine bstep ?_ (by assumption)))⟩
set_option maxRecDepth 100000 in
set_option maxHeartbeats 1600000 in
theorem rs_n (S : ByteArray) (a : Nat) (w : World) (hs : S.size ≤ 140737488355328) (ha : a < S.size) (h92 : byteAt (bl S) a = 92) (hb : a + 1 < S.size) (hc : byteAt (bl S) (a + 1) = 110) :
    Calls Tryd.prog 56 #[.string S, .int .i64 (a : Int)] w (Ans (gotV (sgnAt (bl S) a)) w) := by
  have d1 : decide (S.size ≤ a) = false := by simpa using ha
  have hv := byteAt_ba ha
  have h256 := UInt8.toNat_lt S[a]
  have m1 : ((S[a].toNat : Int) == 92) = true := by rw [← hv]; simp; omega
  have m2 : ((S[a].toNat : Int) != 92) = false := by rw [← hv]; simp; omega
  have H5 := Lib.hid (show fiveB S[a].toNat = true by rw [← hv, h92]; rfl)
  have hv2 := byteAt_ba hb
  have h2562 := UInt8.toNat_lt S[a + 1]
  have d2 : decide ((S.size : Int) ≤ (a : Int) + 1) = false := by simp; omega
  have d3 : decide (S.size ≤ a + 1) = false := by simp; omega
  have ei : ((a : Int) + 1).toNat = a + 1 := by omega
  have b0 : 0 ≤ (a : Int) + 1 := by omega
  have b1 : (a : Int) + 1 < S.size := by omega
  have k110 : ((S[a + 1].toNat : Int) == 110) = true := by rw [← hv2]; simp; omega
  have H6 := Lib.hid (show fiveB S[a + 1].toNat = false by rw [← hv2, hc]; rfl)
  have HO := Lib.hid (show sgnAt (bl S) a = .inr (10, a + 2) by rw [sgnAt, if_pos h92, escAt, hc]; rfl)
  rw [HO.out]
  clear HO h92 hv hv2 hc
  go_enter Tryd.func56, Tryd.ntmps56
  repeat (first | go_values | go_skip | go_guarded | go_step | go_upon)
  refine (five_any _ true _ H5.out).mono ?_
  rintro e w1 ⟨rfl, hb1⟩
  dsimp only
  repeat (first | go_values | go_skip | go_guarded | go_step | go_upon)
  refine (five_any _ false _ H6.out).mono ?_
  rintro e w2 ⟨rfl, hb2⟩
  dsimp only
  repeat (first | go_values | go_skip | go_guarded | go_step | go_upon)
  go_ret3
  exact ⟨rfl, (by repeat (first | exact Below.refl _ _ | assumption | refine bal ?_ _ | refine bdr ?_ | refine bdrn ?_ _ | (refine bset ?_ (by first | exact Nat.le_refl _ | (simp; done) | (simp; omega) | omega) _) | refine bstep ?_ (by assumption)))⟩
set_option maxRecDepth 100000 in
set_option maxHeartbeats 1600000 in
theorem rs_r (S : ByteArray) (a : Nat) (w : World) (hs : S.size ≤ 140737488355328) (ha : a < S.size) (h92 : byteAt (bl S) a = 92) (hb : a + 1 < S.size) (hc : byteAt (bl S) (a + 1) = 114) :
    Calls Tryd.prog 56 #[.string S, .int .i64 (a : Int)] w (Ans (gotV (sgnAt (bl S) a)) w) := by
  have d1 : decide (S.size ≤ a) = false := by simpa using ha
  have hv := byteAt_ba ha
  have h256 := UInt8.toNat_lt S[a]
  have m1 : ((S[a].toNat : Int) == 92) = true := by rw [← hv]; simp; omega
  have m2 : ((S[a].toNat : Int) != 92) = false := by rw [← hv]; simp; omega
  have H5 := Lib.hid (show fiveB S[a].toNat = true by rw [← hv, h92]; rfl)
  have hv2 := byteAt_ba hb
  have h2562 := UInt8.toNat_lt S[a + 1]
  have d2 : decide ((S.size : Int) ≤ (a : Int) + 1) = false := by simp; omega
  have d3 : decide (S.size ≤ a + 1) = false := by simp; omega
  have ei : ((a : Int) + 1).toNat = a + 1 := by omega
  have b0 : 0 ≤ (a : Int) + 1 := by omega
  have b1 : (a : Int) + 1 < S.size := by omega
  have k110 : ((S[a + 1].toNat : Int) == 110) = false := by rw [← hv2]; simp; omega
  have k114 : ((S[a + 1].toNat : Int) == 114) = true := by rw [← hv2]; simp; omega
  have H6 := Lib.hid (show fiveB S[a + 1].toNat = false by rw [← hv2, hc]; rfl)
  have HO := Lib.hid (show sgnAt (bl S) a = .inr (13, a + 2) by rw [sgnAt, if_pos h92, escAt, hc]; rfl)
  rw [HO.out]
  clear HO h92 hv hv2 hc
  go_enter Tryd.func56, Tryd.ntmps56
  repeat (first | go_values | go_skip | go_guarded | go_step | go_upon)
  refine (five_any _ true _ H5.out).mono ?_
  rintro e w1 ⟨rfl, hb1⟩
  dsimp only
  repeat (first | go_values | go_skip | go_guarded | go_step | go_upon)
  refine (five_any _ false _ H6.out).mono ?_
  rintro e w2 ⟨rfl, hb2⟩
  dsimp only
  repeat (first | go_values | go_skip | go_guarded | go_step | go_upon)
  go_ret3
  exact ⟨rfl, (by repeat (first | exact Below.refl _ _ | assumption | refine bal ?_ _ | refine bdr ?_ | refine bdrn ?_ _ | (refine bset ?_ (by first | exact Nat.le_refl _ | (simp; done) | (simp; omega) | omega) _) | refine bstep ?_ (by assumption)))⟩
set_option maxRecDepth 100000 in
set_option maxHeartbeats 1600000 in
theorem rs_t (S : ByteArray) (a : Nat) (w : World) (hs : S.size ≤ 140737488355328) (ha : a < S.size) (h92 : byteAt (bl S) a = 92) (hb : a + 1 < S.size) (hc : byteAt (bl S) (a + 1) = 116) :
    Calls Tryd.prog 56 #[.string S, .int .i64 (a : Int)] w (Ans (gotV (sgnAt (bl S) a)) w) := by
  have d1 : decide (S.size ≤ a) = false := by simpa using ha
  have hv := byteAt_ba ha
  have h256 := UInt8.toNat_lt S[a]
  have m1 : ((S[a].toNat : Int) == 92) = true := by rw [← hv]; simp; omega
  have m2 : ((S[a].toNat : Int) != 92) = false := by rw [← hv]; simp; omega
  have H5 := Lib.hid (show fiveB S[a].toNat = true by rw [← hv, h92]; rfl)
  have hv2 := byteAt_ba hb
  have h2562 := UInt8.toNat_lt S[a + 1]
  have d2 : decide ((S.size : Int) ≤ (a : Int) + 1) = false := by simp; omega
  have d3 : decide (S.size ≤ a + 1) = false := by simp; omega
  have ei : ((a : Int) + 1).toNat = a + 1 := by omega
  have b0 : 0 ≤ (a : Int) + 1 := by omega
  have b1 : (a : Int) + 1 < S.size := by omega
  have k110 : ((S[a + 1].toNat : Int) == 110) = false := by rw [← hv2]; simp; omega
  have k114 : ((S[a + 1].toNat : Int) == 114) = false := by rw [← hv2]; simp; omega
  have k116 : ((S[a + 1].toNat : Int) == 116) = true := by rw [← hv2]; simp; omega
  have H6 := Lib.hid (show fiveB S[a + 1].toNat = false by rw [← hv2, hc]; rfl)
  have HO := Lib.hid (show sgnAt (bl S) a = .inr (9, a + 2) by rw [sgnAt, if_pos h92, escAt, hc]; rfl)
  rw [HO.out]
  clear HO h92 hv hv2 hc
  go_enter Tryd.func56, Tryd.ntmps56
  repeat (first | go_values | go_skip | go_guarded | go_step | go_upon)
  refine (five_any _ true _ H5.out).mono ?_
  rintro e w1 ⟨rfl, hb1⟩
  dsimp only
  repeat (first | go_values | go_skip | go_guarded | go_step | go_upon)
  refine (five_any _ false _ H6.out).mono ?_
  rintro e w2 ⟨rfl, hb2⟩
  dsimp only
  repeat (first | go_values | go_skip | go_guarded | go_step | go_upon)
  go_ret3
  exact ⟨rfl, (by repeat (first | exact Below.refl _ _ | assumption | refine bal ?_ _ | refine bdr ?_ | refine bdrn ?_ _ | (refine bset ?_ (by first | exact Nat.le_refl _ | (simp; done) | (simp; omega) | omega) _) | refine bstep ?_ (by assumption)))⟩
set_option maxRecDepth 100000 in
set_option maxHeartbeats 1600000 in
theorem rs_esc5 (S : ByteArray) (a : Nat) (w : World) (hs : S.size ≤ 140737488355328) (ha : a < S.size) (h92 : byteAt (bl S) a = 92) (hb : a + 1 < S.size) (n1 : byteAt (bl S) (a + 1) ≠ 110) (n2 : byteAt (bl S) (a + 1) ≠ 114) (n3 : byteAt (bl S) (a + 1) ≠ 116) (h5 : fiveB (byteAt (bl S) (a + 1)) = true) :
    Calls Tryd.prog 56 #[.string S, .int .i64 (a : Int)] w (Ans (gotV (sgnAt (bl S) a)) w) := by
  have d1 : decide (S.size ≤ a) = false := by simpa using ha
  have hv := byteAt_ba ha
  have h256 := UInt8.toNat_lt S[a]
  have m1 : ((S[a].toNat : Int) == 92) = true := by rw [← hv]; simp; omega
  have m2 : ((S[a].toNat : Int) != 92) = false := by rw [← hv]; simp; omega
  have H5 := Lib.hid (show fiveB S[a].toNat = true by rw [← hv, h92]; rfl)
  have hv2 := byteAt_ba hb
  have h2562 := UInt8.toNat_lt S[a + 1]
  have d2 : decide ((S.size : Int) ≤ (a : Int) + 1) = false := by simp; omega
  have d3 : decide (S.size ≤ a + 1) = false := by simp; omega
  have ei : ((a : Int) + 1).toNat = a + 1 := by omega
  have b0 : 0 ≤ (a : Int) + 1 := by omega
  have b1 : (a : Int) + 1 < S.size := by omega
  have k110 : ((S[a + 1].toNat : Int) == 110) = false := by rw [← hv2]; simp; omega
  have k114 : ((S[a + 1].toNat : Int) == 114) = false := by rw [← hv2]; simp; omega
  have k116 : ((S[a + 1].toNat : Int) == 116) = false := by rw [← hv2]; simp; omega
  have H6 := Lib.hid (show fiveB S[a + 1].toNat = true by rw [← hv2]; exact h5)
  have HO := Lib.hid (show sgnAt (bl S) a = .inr (S[a + 1].toNat, a + 2) by rw [sgnAt, if_pos h92, escAt, if_neg n1, if_neg n2, if_neg n3, if_pos h5, hv2])
  rw [HO.out]
  clear HO h92 hv hv2 n1 n2 n3 h5
  go_enter Tryd.func56, Tryd.ntmps56
  repeat (first | go_values | go_skip | go_guarded | go_step | go_upon)
  refine (five_any _ true _ H5.out).mono ?_
  rintro e w1 ⟨rfl, hb1⟩
  dsimp only
  repeat (first | go_values | go_skip | go_guarded | go_step | go_upon)
  refine (five_any _ true _ H6.out).mono ?_
  rintro e w2 ⟨rfl, hb2⟩
  dsimp only
  repeat (first | go_values | go_skip | go_guarded | go_step | go_upon)
  go_ret3
  exact ⟨rfl, (by repeat (first | exact Below.refl _ _ | assumption | refine bal ?_ _ | refine bdr ?_ | refine bdrn ?_ _ | (refine bset ?_ (by first | exact Nat.le_refl _ | (simp; done) | (simp; omega) | omega) _) | refine bstep ?_ (by assumption)))⟩
set_option maxRecDepth 100000 in
set_option maxHeartbeats 1600000 in
theorem rs_nox (S : ByteArray) (a : Nat) (w : World) (hs : S.size ≤ 140737488355328) (ha : a < S.size) (h92 : byteAt (bl S) a = 92) (hb : a + 1 < S.size) (n1 : byteAt (bl S) (a + 1) ≠ 110) (n2 : byteAt (bl S) (a + 1) ≠ 114) (n3 : byteAt (bl S) (a + 1) ≠ 116) (h5 : fiveB (byteAt (bl S) (a + 1)) = false) (nx : byteAt (bl S) (a + 1) ≠ 120) :
    Calls Tryd.prog 56 #[.string S, .int .i64 (a : Int)] w (Ans (gotV (sgnAt (bl S) a)) w) := by
  have d1 : decide (S.size ≤ a) = false := by simpa using ha
  have hv := byteAt_ba ha
  have h256 := UInt8.toNat_lt S[a]
  have m1 : ((S[a].toNat : Int) == 92) = true := by rw [← hv]; simp; omega
  have m2 : ((S[a].toNat : Int) != 92) = false := by rw [← hv]; simp; omega
  have H5 := Lib.hid (show fiveB S[a].toNat = true by rw [← hv, h92]; rfl)
  have hv2 := byteAt_ba hb
  have h2562 := UInt8.toNat_lt S[a + 1]
  have d2 : decide ((S.size : Int) ≤ (a : Int) + 1) = false := by simp; omega
  have d3 : decide (S.size ≤ a + 1) = false := by simp; omega
  have ei : ((a : Int) + 1).toNat = a + 1 := by omega
  have b0 : 0 ≤ (a : Int) + 1 := by omega
  have b1 : (a : Int) + 1 < S.size := by omega
  have k110 : ((S[a + 1].toNat : Int) == 110) = false := by rw [← hv2]; simp; omega
  have k114 : ((S[a + 1].toNat : Int) == 114) = false := by rw [← hv2]; simp; omega
  have k116 : ((S[a + 1].toNat : Int) == 116) = false := by rw [← hv2]; simp; omega
  have k120 : ((S[a + 1].toNat : Int) == 120) = false := by rw [← hv2]; simp; omega
  have k7 : ((S[a + 1].toNat : Int) != 120) = true := by rw [← hv2]; simp; omega
  have H6 := Lib.hid (show fiveB S[a + 1].toNat = false by rw [← hv2]; exact h5)
  have HO := Lib.hid (show sgnAt (bl S) a = .inl (4, a + 1) by rw [sgnAt, if_pos h92, escAt, if_neg n1, if_neg n2, if_neg n3, h5, if_neg (by decide), if_neg nx, wrongAt_bin hb])
  rw [HO.out]
  clear HO h92 hv hv2 n1 n2 n3 h5 nx
  go_enter Tryd.func56, Tryd.ntmps56
  repeat (first | go_values | go_skip | go_guarded | go_step | go_upon)
  refine (five_any _ true _ H5.out).mono ?_
  rintro e w1 ⟨rfl, hb1⟩
  dsimp only
  repeat (first | go_values | go_skip | go_guarded | go_step | go_upon)
  refine (five_any _ false _ H6.out).mono ?_
  rintro e w2 ⟨rfl, hb2⟩
  dsimp only
  repeat (first | go_values | go_skip | go_guarded | go_step | go_upon)
  go_ret3
  exact ⟨rfl, (by repeat (first | exact Below.refl _ _ | assumption | refine bal ?_ _ | refine bdr ?_ | refine bdrn ?_ _ | (refine bset ?_ (by first | exact Nat.le_refl _ | (simp; done) | (simp; omega) | omega) _) | refine bstep ?_ (by assumption)))⟩
set_option maxRecDepth 100000 in
set_option maxHeartbeats 1600000 in
theorem rs_x1 (S : ByteArray) (a : Nat) (w : World) (hs : S.size ≤ 140737488355328) (ha : a < S.size) (h92 : byteAt (bl S) a = 92) (hb : a + 1 < S.size) (hc : byteAt (bl S) (a + 1) = 120) (he : S.size ≤ a + 2) :
    Calls Tryd.prog 56 #[.string S, .int .i64 (a : Int)] w (Ans (gotV (sgnAt (bl S) a)) w) := by
  have d1 : decide (S.size ≤ a) = false := by simpa using ha
  have hv := byteAt_ba ha
  have h256 := UInt8.toNat_lt S[a]
  have m1 : ((S[a].toNat : Int) == 92) = true := by rw [← hv]; simp; omega
  have m2 : ((S[a].toNat : Int) != 92) = false := by rw [← hv]; simp; omega
  have H5 := Lib.hid (show fiveB S[a].toNat = true by rw [← hv, h92]; rfl)
  have hv2 := byteAt_ba hb
  have h2562 := UInt8.toNat_lt S[a + 1]
  have d2 : decide ((S.size : Int) ≤ (a : Int) + 1) = false := by simp; omega
  have d3 : decide (S.size ≤ a + 1) = false := by simp; omega
  have ei : ((a : Int) + 1).toNat = a + 1 := by omega
  have b0 : 0 ≤ (a : Int) + 1 := by omega
  have b1 : (a : Int) + 1 < S.size := by omega
  have k110 : ((S[a + 1].toNat : Int) == 110) = false := by rw [← hv2]; simp; omega
  have k114 : ((S[a + 1].toNat : Int) == 114) = false := by rw [← hv2]; simp; omega
  have k116 : ((S[a + 1].toNat : Int) == 116) = false := by rw [← hv2]; simp; omega
  have k8 : ((S[a + 1].toNat : Int) == 120) = true := by rw [← hv2]; simp; omega
  have k7 : ((S[a + 1].toNat : Int) != 120) = false := by rw [← hv2]; simp; omega
  have H6 := Lib.hid (show fiveB S[a + 1].toNat = false by rw [← hv2, hc]; rfl)
  have ej : ((a : Int) + 2).toNat = a + 2 := by omega
  have dj : decide ((S.size : Int) ≤ (a : Int) + 2) = true := by simp; omega
  have dl : decide ((a : Int) + 2 < (a : Int) + 4) = true := by simp
  have HO := Lib.hid (show sgnAt (bl S) a = .inl (3, S.size) by rw [sgnAt, if_pos h92, escAt, if_neg (by omega), if_neg (by omega), if_neg (by omega), if_neg (by rw [hc]; decide), if_pos hc, hexAt, byteAt_bge he, if_pos (by decide), wrongAt_bout he])
  rw [HO.out]
  clear HO h92 hv hv2 hc he
  go_enter Tryd.func56, Tryd.ntmps56
  repeat (first | go_values | go_skip | go_guarded | go_step | go_upon)
  refine (five_any _ true _ H5.out).mono ?_
  rintro e w1 ⟨rfl, hb1⟩
  dsimp only
  repeat (first | go_values | go_skip | go_guarded | go_step | go_upon)
  refine (five_any _ false _ H6.out).mono ?_
  rintro e w2 ⟨rfl, hb2⟩
  dsimp only
  repeat (first | go_values | go_skip | go_guarded | go_step | go_upon)
  refine wp_loop_rounds 1 ?_
  rw [rounds_succ]
  repeat (first | go_values | go_skip | go_guarded | go_step | go_upon)
  go_ret3
  exact ⟨rfl, (by repeat (first | exact Below.refl _ _ | assumption | refine bal ?_ _ | refine bdr ?_ | refine bdrn ?_ _ | (refine bset ?_ (by first | exact Nat.le_refl _ | (simp; done) | (simp; omega) | omega) _) | refine bstep ?_ (by assumption)))⟩
set_option maxRecDepth 100000 in
set_option maxHeartbeats 1600000 in
theorem rs_x2 (S : ByteArray) (a : Nat) (w : World) (hs : S.size ≤ 140737488355328) (ha : a < S.size) (h92 : byteAt (bl S) a = 92) (hb : a + 1 < S.size) (hc : byteAt (bl S) (a + 1) = 120) (he : a + 2 < S.size) (hd : digV (byteAt (bl S) (a + 2)) = 16) :
    Calls Tryd.prog 56 #[.string S, .int .i64 (a : Int)] w (Ans (gotV (sgnAt (bl S) a)) w) := by
  have d1 : decide (S.size ≤ a) = false := by simpa using ha
  have hv := byteAt_ba ha
  have h256 := UInt8.toNat_lt S[a]
  have m1 : ((S[a].toNat : Int) == 92) = true := by rw [← hv]; simp; omega
  have m2 : ((S[a].toNat : Int) != 92) = false := by rw [← hv]; simp; omega
  have H5 := Lib.hid (show fiveB S[a].toNat = true by rw [← hv, h92]; rfl)
  have hv2 := byteAt_ba hb
  have h2562 := UInt8.toNat_lt S[a + 1]
  have d2 : decide ((S.size : Int) ≤ (a : Int) + 1) = false := by simp; omega
  have d3 : decide (S.size ≤ a + 1) = false := by simp; omega
  have ei : ((a : Int) + 1).toNat = a + 1 := by omega
  have b0 : 0 ≤ (a : Int) + 1 := by omega
  have b1 : (a : Int) + 1 < S.size := by omega
  have k110 : ((S[a + 1].toNat : Int) == 110) = false := by rw [← hv2]; simp; omega
  have k114 : ((S[a + 1].toNat : Int) == 114) = false := by rw [← hv2]; simp; omega
  have k116 : ((S[a + 1].toNat : Int) == 116) = false := by rw [← hv2]; simp; omega
  have k8 : ((S[a + 1].toNat : Int) == 120) = true := by rw [← hv2]; simp; omega
  have k7 : ((S[a + 1].toNat : Int) != 120) = false := by rw [← hv2]; simp; omega
  have H6 := Lib.hid (show fiveB S[a + 1].toNat = false by rw [← hv2, hc]; rfl)
  have ej : ((a : Int) + 2).toNat = a + 2 := by omega
  have dj : decide ((S.size : Int) ≤ (a : Int) + 2) = false := by simp; omega
  have dl : decide ((a : Int) + 2 < (a : Int) + 4) = true := by simp
  have b2 : 0 ≤ (a : Int) + 2 := by omega
  have b3 : (a : Int) + 2 < S.size := by omega
  have hv3 := byteAt_ba he
  have h2563 := UInt8.toNat_lt S[a + 2]
  have HD := Lib.hid (show digV S[a + 2].toNat = 16 by rw [← hv3]; exact hd)
  have HO := Lib.hid (show sgnAt (bl S) a = .inl (4, a + 2) by rw [sgnAt, if_pos h92, escAt, if_neg (by omega), if_neg (by omega), if_neg (by omega), if_neg (by rw [hc]; decide), if_pos hc, hexAt, if_pos hd, wrongAt_bin he])
  rw [HO.out]
  clear HO h92 hv hv2 hc hv3 hd
  go_enter Tryd.func56, Tryd.ntmps56
  repeat (first | go_values | go_skip | go_guarded | go_step | go_upon)
  refine (five_any _ true _ H5.out).mono ?_
  rintro e w1 ⟨rfl, hb1⟩
  dsimp only
  repeat (first | go_values | go_skip | go_guarded | go_step | go_upon)
  refine (five_any _ false _ H6.out).mono ?_
  rintro e w2 ⟨rfl, hb2⟩
  dsimp only
  repeat (first | go_values | go_skip | go_guarded | go_step | go_upon)
  refine wp_loop_rounds 1 ?_
  rw [rounds_succ]
  repeat (first | go_values | go_skip | go_guarded | go_step | go_upon)
  refine (dig_no _ _ h2563 HD.out).mono ?_
  rintro e w3 ⟨rfl, hb3⟩
  dsimp only
  repeat (first | go_values | go_skip | go_guarded | go_step | go_upon)
  go_ret3
  exact ⟨rfl, (by repeat (first | exact Below.refl _ _ | assumption | refine bal ?_ _ | refine bdr ?_ | refine bdrn ?_ _ | (refine bset ?_ (by first | exact Nat.le_refl _ | (simp; done) | (simp; omega) | omega) _) | refine bstep ?_ (by assumption)))⟩
set_option maxRecDepth 100000 in
set_option maxHeartbeats 1600000 in
theorem rs_x3 (S : ByteArray) (a : Nat) (w : World) (hs : S.size ≤ 140737488355328) (ha : a < S.size) (h92 : byteAt (bl S) a = 92) (hb : a + 1 < S.size) (hc : byteAt (bl S) (a + 1) = 120) (he : a + 2 < S.size) (hd : digV (byteAt (bl S) (a + 2)) ≠ 16) (hf : S.size ≤ a + 3) :
    Calls Tryd.prog 56 #[.string S, .int .i64 (a : Int)] w (Ans (gotV (sgnAt (bl S) a)) w) := by
  have d1 : decide (S.size ≤ a) = false := by simpa using ha
  have hv := byteAt_ba ha
  have h256 := UInt8.toNat_lt S[a]
  have m1 : ((S[a].toNat : Int) == 92) = true := by rw [← hv]; simp; omega
  have m2 : ((S[a].toNat : Int) != 92) = false := by rw [← hv]; simp; omega
  have H5 := Lib.hid (show fiveB S[a].toNat = true by rw [← hv, h92]; rfl)
  have hv2 := byteAt_ba hb
  have h2562 := UInt8.toNat_lt S[a + 1]
  have d2 : decide ((S.size : Int) ≤ (a : Int) + 1) = false := by simp; omega
  have d3 : decide (S.size ≤ a + 1) = false := by simp; omega
  have ei : ((a : Int) + 1).toNat = a + 1 := by omega
  have b0 : 0 ≤ (a : Int) + 1 := by omega
  have b1 : (a : Int) + 1 < S.size := by omega
  have k110 : ((S[a + 1].toNat : Int) == 110) = false := by rw [← hv2]; simp; omega
  have k114 : ((S[a + 1].toNat : Int) == 114) = false := by rw [← hv2]; simp; omega
  have k116 : ((S[a + 1].toNat : Int) == 116) = false := by rw [← hv2]; simp; omega
  have k8 : ((S[a + 1].toNat : Int) == 120) = true := by rw [← hv2]; simp; omega
  have k7 : ((S[a + 1].toNat : Int) != 120) = false := by rw [← hv2]; simp; omega
  have H6 := Lib.hid (show fiveB S[a + 1].toNat = false by rw [← hv2, hc]; rfl)
  have ej : ((a : Int) + 2).toNat = a + 2 := by omega
  have dj : decide ((S.size : Int) ≤ (a : Int) + 2) = false := by simp; omega
  have dl : decide ((a : Int) + 2 < (a : Int) + 4) = true := by simp
  have ek : ((a : Int) + 2 + 1).toNat = a + 3 := by omega
  have dk : decide ((S.size : Int) ≤ (a : Int) + 2 + 1) = true := by simp; omega
  have dm : decide ((a : Int) + 2 + 1 < (a : Int) + 4) = true := by simp; omega
  have b2 : 0 ≤ (a : Int) + 2 := by omega
  have b3 : (a : Int) + 2 < S.size := by omega
  have hv3 := byteAt_ba he
  have h2563 := UInt8.toNat_lt S[a + 2]
  have HD := Lib.hid (show digV S[a + 2].toNat ≠ 16 by rw [← hv3]; exact hd)
  have l1 := digV_le S[a + 2].toNat
  have HO := Lib.hid (show sgnAt (bl S) a = .inl (3, S.size) by rw [sgnAt, if_pos h92, escAt, if_neg (by omega), if_neg (by omega), if_neg (by omega), if_neg (by rw [hc]; decide), if_pos hc, hexAt, if_neg hd, lowAt, byteAt_bge hf, if_pos (by decide), wrongAt_bout hf])
  rw [HO.out]
  clear HO h92 hv hv2 hc hv3 hd hf
  go_enter Tryd.func56, Tryd.ntmps56
  repeat (first | go_values | go_skip | go_guarded | go_step | go_upon)
  refine (five_any _ true _ H5.out).mono ?_
  rintro e w1 ⟨rfl, hb1⟩
  dsimp only
  repeat (first | go_values | go_skip | go_guarded | go_step | go_upon)
  refine (five_any _ false _ H6.out).mono ?_
  rintro e w2 ⟨rfl, hb2⟩
  dsimp only
  repeat (first | go_values | go_skip | go_guarded | go_step | go_upon)
  refine wp_loop_rounds 2 ?_
  rw [rounds_succ]
  repeat (first | go_values | go_skip | go_guarded | go_step | go_upon)
  refine (dig_yes _ _ h2563 HD.out).mono ?_
  rintro e w3 ⟨rfl, hb3⟩
  dsimp only
  repeat (first | go_values | go_skip | go_guarded | go_step | go_upon)
  rw [rounds_succ]
  repeat (first | go_values | go_skip | go_guarded | go_step | go_upon)
  go_ret3
  exact ⟨rfl, (by repeat (first | exact Below.refl _ _ | assumption | refine bal ?_ _ | refine bdr ?_ | refine bdrn ?_ _ | (refine bset ?_ (by first | exact Nat.le_refl _ | (simp; done) | (simp; omega) | omega) _) | refine bstep ?_ (by assumption)))⟩
set_option maxRecDepth 100000 in
set_option maxHeartbeats 1600000 in
theorem rs_x4 (S : ByteArray) (a : Nat) (w : World) (hs : S.size ≤ 140737488355328) (ha : a < S.size) (h92 : byteAt (bl S) a = 92) (hb : a + 1 < S.size) (hc : byteAt (bl S) (a + 1) = 120) (he : a + 2 < S.size) (hd : digV (byteAt (bl S) (a + 2)) ≠ 16) (hf : a + 3 < S.size) (hg : digV (byteAt (bl S) (a + 3)) = 16) :
    Calls Tryd.prog 56 #[.string S, .int .i64 (a : Int)] w (Ans (gotV (sgnAt (bl S) a)) w) := by
  have d1 : decide (S.size ≤ a) = false := by simpa using ha
  have hv := byteAt_ba ha
  have h256 := UInt8.toNat_lt S[a]
  have m1 : ((S[a].toNat : Int) == 92) = true := by rw [← hv]; simp; omega
  have m2 : ((S[a].toNat : Int) != 92) = false := by rw [← hv]; simp; omega
  have H5 := Lib.hid (show fiveB S[a].toNat = true by rw [← hv, h92]; rfl)
  have hv2 := byteAt_ba hb
  have h2562 := UInt8.toNat_lt S[a + 1]
  have d2 : decide ((S.size : Int) ≤ (a : Int) + 1) = false := by simp; omega
  have d3 : decide (S.size ≤ a + 1) = false := by simp; omega
  have ei : ((a : Int) + 1).toNat = a + 1 := by omega
  have b0 : 0 ≤ (a : Int) + 1 := by omega
  have b1 : (a : Int) + 1 < S.size := by omega
  have k110 : ((S[a + 1].toNat : Int) == 110) = false := by rw [← hv2]; simp; omega
  have k114 : ((S[a + 1].toNat : Int) == 114) = false := by rw [← hv2]; simp; omega
  have k116 : ((S[a + 1].toNat : Int) == 116) = false := by rw [← hv2]; simp; omega
  have k8 : ((S[a + 1].toNat : Int) == 120) = true := by rw [← hv2]; simp; omega
  have k7 : ((S[a + 1].toNat : Int) != 120) = false := by rw [← hv2]; simp; omega
  have H6 := Lib.hid (show fiveB S[a + 1].toNat = false by rw [← hv2, hc]; rfl)
  have ej : ((a : Int) + 2).toNat = a + 2 := by omega
  have dj : decide ((S.size : Int) ≤ (a : Int) + 2) = false := by simp; omega
  have dl : decide ((a : Int) + 2 < (a : Int) + 4) = true := by simp
  have ek : ((a : Int) + 2 + 1).toNat = a + 3 := by omega
  have dk : decide ((S.size : Int) ≤ (a : Int) + 2 + 1) = false := by simp; omega
  have dm : decide ((a : Int) + 2 + 1 < (a : Int) + 4) = true := by simp; omega
  have b2 : 0 ≤ (a : Int) + 2 := by omega
  have b3 : (a : Int) + 2 < S.size := by omega
  have hv3 := byteAt_ba he
  have h2563 := UInt8.toNat_lt S[a + 2]
  have HD := Lib.hid (show digV S[a + 2].toNat ≠ 16 by rw [← hv3]; exact hd)
  have l1 := digV_le S[a + 2].toNat
  have b4 : 0 ≤ (a : Int) + 2 + 1 := by omega
  have b5 : (a : Int) + 2 + 1 < S.size := by omega
  have hv4 := byteAt_ba hf
  have h2564 := UInt8.toNat_lt S[a + 3]
  have HG := Lib.hid (show digV S[a + 3].toNat = 16 by rw [← hv4]; exact hg)
  have HO := Lib.hid (show sgnAt (bl S) a = .inl (4, a + 3) by rw [sgnAt, if_pos h92, escAt, if_neg (by omega), if_neg (by omega), if_neg (by omega), if_neg (by rw [hc]; decide), if_pos hc, hexAt, if_neg hd, lowAt, if_pos hg, wrongAt_bin hf])
  rw [HO.out]
  clear HO h92 hv hv2 hc hv3 hd hv4 hg
  go_enter Tryd.func56, Tryd.ntmps56
  repeat (first | go_values | go_skip | go_guarded | go_step | go_upon)
  refine (five_any _ true _ H5.out).mono ?_
  rintro e w1 ⟨rfl, hb1⟩
  dsimp only
  repeat (first | go_values | go_skip | go_guarded | go_step | go_upon)
  refine (five_any _ false _ H6.out).mono ?_
  rintro e w2 ⟨rfl, hb2⟩
  dsimp only
  repeat (first | go_values | go_skip | go_guarded | go_step | go_upon)
  refine wp_loop_rounds 2 ?_
  rw [rounds_succ]
  repeat (first | go_values | go_skip | go_guarded | go_step | go_upon)
  refine (dig_yes _ _ h2563 HD.out).mono ?_
  rintro e w3 ⟨rfl, hb3⟩
  dsimp only
  repeat (first | go_values | go_skip | go_guarded | go_step | go_upon)
  rw [rounds_succ]
  repeat (first | go_values | go_skip | go_guarded | go_step | go_upon)
  refine (dig_no _ _ h2564 HG.out).mono ?_
  rintro e w4 ⟨rfl, hb4⟩
  dsimp only
  repeat (first | go_values | go_skip | go_guarded | go_step | go_upon)
  go_ret3
  exact ⟨rfl, (by repeat (first | exact Below.refl _ _ | assumption | refine bal ?_ _ | refine bdr ?_ | refine bdrn ?_ _ | (refine bset ?_ (by first | exact Nat.le_refl _ | (simp; done) | (simp; omega) | omega) _) | refine bstep ?_ (by assumption)))⟩
set_option maxRecDepth 100000 in
set_option maxHeartbeats 1600000 in
theorem rs_x5 (S : ByteArray) (a : Nat) (w : World) (hs : S.size ≤ 140737488355328) (ha : a < S.size) (h92 : byteAt (bl S) a = 92) (hb : a + 1 < S.size) (hc : byteAt (bl S) (a + 1) = 120) (he : a + 2 < S.size) (hd : digV (byteAt (bl S) (a + 2)) ≠ 16) (hf : a + 3 < S.size) (hg : digV (byteAt (bl S) (a + 3)) ≠ 16) :
    Calls Tryd.prog 56 #[.string S, .int .i64 (a : Int)] w (Ans (gotV (sgnAt (bl S) a)) w) := by
  have d1 : decide (S.size ≤ a) = false := by simpa using ha
  have hv := byteAt_ba ha
  have h256 := UInt8.toNat_lt S[a]
  have m1 : ((S[a].toNat : Int) == 92) = true := by rw [← hv]; simp; omega
  have m2 : ((S[a].toNat : Int) != 92) = false := by rw [← hv]; simp; omega
  have H5 := Lib.hid (show fiveB S[a].toNat = true by rw [← hv, h92]; rfl)
  have hv2 := byteAt_ba hb
  have h2562 := UInt8.toNat_lt S[a + 1]
  have d2 : decide ((S.size : Int) ≤ (a : Int) + 1) = false := by simp; omega
  have d3 : decide (S.size ≤ a + 1) = false := by simp; omega
  have ei : ((a : Int) + 1).toNat = a + 1 := by omega
  have b0 : 0 ≤ (a : Int) + 1 := by omega
  have b1 : (a : Int) + 1 < S.size := by omega
  have k110 : ((S[a + 1].toNat : Int) == 110) = false := by rw [← hv2]; simp; omega
  have k114 : ((S[a + 1].toNat : Int) == 114) = false := by rw [← hv2]; simp; omega
  have k116 : ((S[a + 1].toNat : Int) == 116) = false := by rw [← hv2]; simp; omega
  have k8 : ((S[a + 1].toNat : Int) == 120) = true := by rw [← hv2]; simp; omega
  have k7 : ((S[a + 1].toNat : Int) != 120) = false := by rw [← hv2]; simp; omega
  have H6 := Lib.hid (show fiveB S[a + 1].toNat = false by rw [← hv2, hc]; rfl)
  have ej : ((a : Int) + 2).toNat = a + 2 := by omega
  have dj : decide ((S.size : Int) ≤ (a : Int) + 2) = false := by simp; omega
  have dl : decide ((a : Int) + 2 < (a : Int) + 4) = true := by simp
  have ek : ((a : Int) + 2 + 1).toNat = a + 3 := by omega
  have dk : decide ((S.size : Int) ≤ (a : Int) + 2 + 1) = false := by simp; omega
  have dm : decide ((a : Int) + 2 + 1 < (a : Int) + 4) = true := by simp; omega
  have b2 : 0 ≤ (a : Int) + 2 := by omega
  have b3 : (a : Int) + 2 < S.size := by omega
  have hv3 := byteAt_ba he
  have h2563 := UInt8.toNat_lt S[a + 2]
  have HD := Lib.hid (show digV S[a + 2].toNat ≠ 16 by rw [← hv3]; exact hd)
  have l1 := digV_le S[a + 2].toNat
  have b4 : 0 ≤ (a : Int) + 2 + 1 := by omega
  have b5 : (a : Int) + 2 + 1 < S.size := by omega
  have hv4 := byteAt_ba hf
  have h2564 := UInt8.toNat_lt S[a + 3]
  have HG := Lib.hid (show digV S[a + 3].toNat ≠ 16 by rw [← hv4]; exact hg)
  have l2 := digV_le S[a + 3].toNat
  have HO := Lib.hid (show sgnAt (bl S) a = .inr (16 * digV S[a + 2].toNat + digV S[a + 3].toNat, a + 4) by rw [sgnAt, if_pos h92, escAt, if_neg (by omega), if_neg (by omega), if_neg (by omega), if_neg (by rw [hc]; decide), if_pos hc, hexAt, if_neg hd, lowAt, if_neg hg, hv3, hv4])
  rw [HO.out]
  clear HO h92 hv hv2 hc hv3 hd hv4 hg
  go_enter Tryd.func56, Tryd.ntmps56
  repeat (first | go_values | go_skip | go_guarded | go_step | go_upon)
  refine (five_any _ true _ H5.out).mono ?_
  rintro e w1 ⟨rfl, hb1⟩
  dsimp only
  repeat (first | go_values | go_skip | go_guarded | go_step | go_upon)
  refine (five_any _ false _ H6.out).mono ?_
  rintro e w2 ⟨rfl, hb2⟩
  dsimp only
  repeat (first | go_values | go_skip | go_guarded | go_step | go_upon)
  refine wp_loop_rounds 3 ?_
  rw [rounds_succ]
  repeat (first | go_values | go_skip | go_guarded | go_step | go_upon)
  refine (dig_yes _ _ h2563 HD.out).mono ?_
  rintro e w3 ⟨rfl, hb3⟩
  dsimp only
  repeat (first | go_values | go_skip | go_guarded | go_step | go_upon)
  rw [rounds_succ]
  repeat (first | go_values | go_skip | go_guarded | go_step | go_upon)
  refine (dig_yes _ _ h2564 HG.out).mono ?_
  rintro e w4 ⟨rfl, hb4⟩
  dsimp only
  repeat (first | go_values | go_skip | go_guarded | go_step | go_upon)
  rw [rounds_succ]
  repeat (first | go_values | go_skip | go_guarded | go_step | go_upon)
  go_ret3
  exact ⟨rfl, (by repeat (first | exact Below.refl _ _ | assumption | refine bal ?_ _ | refine bdr ?_ | refine bdrn ?_ _ | (refine bset ?_ (by first | exact Nat.le_refl _ | (simp; done) | (simp; omega) | omega) _) | refine bstep ?_ (by assumption)))⟩
theorem refsign_any (S : ByteArray) (a : Nat) (w : World) (hs : S.size ≤ 140737488355328) (hz : a ≤ 140737488355328) :
    Calls Tryd.prog 56 #[.string S, .int .i64 (a : Int)] w (Ans (gotV (sgnAt (bl S) a)) w) := by
  rcases Nat.lt_or_ge a S.size with ha | ha
  · by_cases h92 : byteAt (bl S) a = 92
    · rcases Nat.lt_or_ge (a + 1) S.size with hb | hb
      · by_cases n1 : byteAt (bl S) (a + 1) = 110
        · exact rs_n S a w hs ha h92 hb n1
        by_cases n2 : byteAt (bl S) (a + 1) = 114
        · exact rs_r S a w hs ha h92 hb n2
        by_cases n3 : byteAt (bl S) (a + 1) = 116
        · exact rs_t S a w hs ha h92 hb n3
        cases h5 : fiveB (byteAt (bl S) (a + 1))
        · by_cases hx : byteAt (bl S) (a + 1) = 120
          · rcases Nat.lt_or_ge (a + 2) S.size with he | he
            · by_cases hd : digV (byteAt (bl S) (a + 2)) = 16
              · exact rs_x2 S a w hs ha h92 hb hx he hd
              rcases Nat.lt_or_ge (a + 3) S.size with hf | hf
              · by_cases hg : digV (byteAt (bl S) (a + 3)) = 16
                · exact rs_x4 S a w hs ha h92 hb hx he hd hf hg
                · exact rs_x5 S a w hs ha h92 hb hx he hd hf hg
              · exact rs_x3 S a w hs ha h92 hb hx he hd hf
            · exact rs_x1 S a w hs ha h92 hb hx he
          · exact rs_nox S a w hs ha h92 hb n1 n2 n3 h5 hx
        · exact rs_esc5 S a w hs ha h92 hb n1 n2 n3 h5
      · exact rs_end S a w hs ha h92 hb
    · cases h5 : fiveB (byteAt (bl S) a)
      · by_cases h1 : byteAt (bl S) a < 32
        · exact rs_lt S a w hs ha h92 h5 h1
        by_cases h2 : 126 < byteAt (bl S) a
        · exact rs_gt S a w hs ha h92 h5 h2
        · exact rs_ok S a w hs ha h92 h5 h1 h2
      · exact rs_five S a w hs ha h92 h5
  · exact rs_out S a w hs hz ha
end Go.Proofs.YtlohpplpnddfaaaDoor
