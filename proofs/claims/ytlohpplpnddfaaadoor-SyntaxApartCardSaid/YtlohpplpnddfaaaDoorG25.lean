/- The walks of the document's hex and sign of a literal. | Bytes as a literal: plain facts. -/
import Derived.Test.YtlohpplpnddfaaaDoorG24
import Derived.Test.YtlohpplpnddfaaaDoorG0
namespace Go.Proofs.YtlohpplpnddfaaaDoor
open Go.RowKit Go.Sort

/-- What the document's functions answer. -/
def gotL : Got Nat → Value
  | .inr (c, n) => .tuple #[.int .u8 (c : Int), .int .i64 (n : Int), .int .i64 0]
  | .inl (e, n) => .tuple #[.int .u8 0, .int .i64 (n : Int), .int .i64 (e : Int)]
set_option maxRecDepth 100000 in
set_option maxHeartbeats 1600000 in
theorem hex_yes (n : Nat) (w : World) (hn : n < 256) (h : digV n ≠ 16) : Calls Tryd.prog 113 #[.int .u8 (n : Int)] w (Ans (.int .i64 (digV n : Int)) w) := by
  by_cases h1 : 48 ≤ n ∧ n ≤ 57
  · have e : digV n = n - 48 := by rw [digV, if_pos h1]
    rw [e]
    have d1 : decide ((48 : Int) ≤ n) = true := by simp; omega
    have d2 : decide ((n : Int) ≤ 57) = true := by simp; omega
    have e2 : IntKind.u8.wrap ((n : Int) - 48) = (n : Int) - 48 := by rw [IntKind.wrap_u8]; omega
    clear h e
    go_enter Tryd.func113, Tryd.ntmps113
    repeat (first | go_values | go_skip | go_guarded | go_step | go_upon)
    go_ret
    exact ⟨ret_int (by omega), (by repeat (first | exact Below.refl _ _ | assumption | refine bal ?_ _ | refine bdr ?_ | refine bdrn ?_ _ | (refine bset ?_ (by first | exact Nat.le_refl _ | (simp; done) | (simp; omega) | omega) _) | refine bstep ?_ (by assumption)))⟩
  · have h2 : 97 ≤ n ∧ n ≤ 102 := by
      unfold digV at h
      rw [if_neg h1] at h
      split at h
      · assumption
      · exact absurd rfl h
    have e : digV n = n - 87 := by rw [digV, if_neg h1, if_pos h2]
    rw [e]
    have d1 : decide ((48 : Int) ≤ n) = true := by simp; omega
    have d2 : decide ((n : Int) ≤ 57) = false := by simp; omega
    have d3 : decide ((97 : Int) ≤ n) = true := by simp; omega
    have d4 : decide ((n : Int) ≤ 102) = true := by simp; omega
    have e2 : IntKind.u8.wrap ((n : Int) - 97) = (n : Int) - 97 := by rw [IntKind.wrap_u8]; omega
    have e3 : IntKind.i64.wrap ((n : Int) - 97 + 10) = (n : Int) - 97 + 10 := by rw [IntKind.wrap_i64]; omega
    clear h e h1
    go_enter Tryd.func113, Tryd.ntmps113
    repeat (first | go_values | go_skip | go_guarded | go_step | go_upon)
    go_ret
    exact ⟨ret_int (by omega), (by repeat (first | exact Below.refl _ _ | assumption | refine bal ?_ _ | refine bdr ?_ | refine bdrn ?_ _ | (refine bset ?_ (by first | exact Nat.le_refl _ | (simp; done) | (simp; omega) | omega) _) | refine bstep ?_ (by assumption)))⟩
set_option maxRecDepth 100000 in
set_option maxHeartbeats 1600000 in
theorem hex_no (n : Nat) (w : World) (hn : n < 256) (h : digV n = 16) : Calls Tryd.prog 113 #[.int .u8 (n : Int)] w (Ans (.int .i64 (-1)) w) := by
  have h1 : ¬ (48 ≤ n ∧ n ≤ 57) := by
    intro h1
    rw [digV, if_pos h1] at h
    omega
  have h2 : ¬ (97 ≤ n ∧ n ≤ 102) := by
    intro h2
    rw [digV, if_neg h1, if_pos h2] at h
    omega
  have hk : n < 48 ∨ (57 < n ∧ n < 97) ∨ 102 < n := by omega
  clear h h1 h2
  rcases hk with hk | hk | hk
  · have d1 : decide ((48 : Int) ≤ n) = false := by simp; omega
    have d3 : decide ((97 : Int) ≤ n) = false := by simp; omega
    clear hk
    go_enter Tryd.func113, Tryd.ntmps113
    repeat (first | go_values | go_skip | go_guarded | go_step | go_upon)
    go_ret
    exact ⟨rfl, (by repeat (first | exact Below.refl _ _ | assumption | refine bal ?_ _ | refine bdr ?_ | refine bdrn ?_ _ | (refine bset ?_ (by first | exact Nat.le_refl _ | (simp; done) | (simp; omega) | omega) _) | refine bstep ?_ (by assumption)))⟩
  · have d1 : decide ((48 : Int) ≤ n) = true := by simp; omega
    have d2 : decide ((n : Int) ≤ 57) = false := by simp; omega
    have d3 : decide ((97 : Int) ≤ n) = false := by simp; omega
    clear hk
    go_enter Tryd.func113, Tryd.ntmps113
    repeat (first | go_values | go_skip | go_guarded | go_step | go_upon)
    go_ret
    exact ⟨rfl, (by repeat (first | exact Below.refl _ _ | assumption | refine bal ?_ _ | refine bdr ?_ | refine bdrn ?_ _ | (refine bset ?_ (by first | exact Nat.le_refl _ | (simp; done) | (simp; omega) | omega) _) | refine bstep ?_ (by assumption)))⟩
  · have d1 : decide ((48 : Int) ≤ n) = true := by simp; omega
    have d2 : decide ((n : Int) ≤ 57) = false := by simp; omega
    have d3 : decide ((97 : Int) ≤ n) = true := by simp; omega
    have d4 : decide ((n : Int) ≤ 102) = false := by simp; omega
    clear hk
    go_enter Tryd.func113, Tryd.ntmps113
    repeat (first | go_values | go_skip | go_guarded | go_step | go_upon)
    go_ret
    exact ⟨rfl, (by repeat (first | exact Below.refl _ _ | assumption | refine bal ?_ _ | refine bdr ?_ | refine bdrn ?_ _ | (refine bset ?_ (by first | exact Nat.le_refl _ | (simp; done) | (simp; omega) | omega) _) | refine bstep ?_ (by assumption)))⟩
set_option maxRecDepth 100000 in
set_option maxHeartbeats 1600000 in
theorem ls_lt (S : ByteArray) (a : Nat) (w : World) (_ : S.size ≤ 140737488355328) (ha : a < S.size) (h92 : byteAt (bl S) a ≠ 92) (hl : byteAt (bl S) a < 32) :
    Calls Tryd.prog 111 #[.string S, .int .i64 (a : Int)] w (Ans (gotL (lchAt (bl S) a)) w) := by
  have hv := byteAt_ba ha
  have h256 := UInt8.toNat_lt S[a]
  have m1 : ((S[a].toNat : Int) == 92) = false := by rw [← hv]; simp; omega
  have m2 : ((S[a].toNat : Int) != 92) = true := by rw [← hv]; simp; omega
  have d2 : decide ((S[a].toNat : Int) < 32) = true := by rw [← hv]; simp; omega
  have HO := Lib.hid (show lchAt (bl S) a = .inl (4, a) by rw [lchAt, if_neg h92, if_pos (.inl hl)])
  rw [HO.out]
  clear HO h92 hl hv
  go_enter Tryd.func111, Tryd.ntmps111
  repeat (first | go_values | go_skip | go_guarded | go_step | go_upon)
  go_ret3
  exact ⟨rfl, (by repeat (first | exact Below.refl _ _ | assumption | refine bal ?_ _ | refine bdr ?_ | refine bdrn ?_ _ | (refine bset ?_ (by first | exact Nat.le_refl _ | (simp; done) | (simp; omega) | omega) _) | refine bstep ?_ (by assumption)))⟩
set_option maxRecDepth 100000 in
set_option maxHeartbeats 1600000 in
theorem ls_gt (S : ByteArray) (a : Nat) (w : World) (_ : S.size ≤ 140737488355328) (ha : a < S.size) (h92 : byteAt (bl S) a ≠ 92) (hl : 126 < byteAt (bl S) a) :
    Calls Tryd.prog 111 #[.string S, .int .i64 (a : Int)] w (Ans (gotL (lchAt (bl S) a)) w) := by
  have hv := byteAt_ba ha
  have h256 := UInt8.toNat_lt S[a]
  have m1 : ((S[a].toNat : Int) == 92) = false := by rw [← hv]; simp; omega
  have m2 : ((S[a].toNat : Int) != 92) = true := by rw [← hv]; simp; omega
  have d2 : decide ((S[a].toNat : Int) < 32) = false := by rw [← hv]; simp; omega
  have d4 : decide ((126 : Int) < S[a].toNat) = true := by rw [← hv]; simp; omega
  have HO := Lib.hid (show lchAt (bl S) a = .inl (4, a) by rw [lchAt, if_neg h92, if_pos (.inr hl)])
  rw [HO.out]
  clear HO h92 hl hv
  go_enter Tryd.func111, Tryd.ntmps111
  repeat (first | go_values | go_skip | go_guarded | go_step | go_upon)
  go_ret3
  exact ⟨rfl, (by repeat (first | exact Below.refl _ _ | assumption | refine bal ?_ _ | refine bdr ?_ | refine bdrn ?_ _ | (refine bset ?_ (by first | exact Nat.le_refl _ | (simp; done) | (simp; omega) | omega) _) | refine bstep ?_ (by assumption)))⟩
set_option maxRecDepth 100000 in
set_option maxHeartbeats 1600000 in
theorem ls_ok (S : ByteArray) (a : Nat) (w : World) (hs : S.size ≤ 140737488355328) (ha : a < S.size) (h92 : byteAt (bl S) a ≠ 92) (h1 : ¬ byteAt (bl S) a < 32) (h2 : ¬ 126 < byteAt (bl S) a) :
    Calls Tryd.prog 111 #[.string S, .int .i64 (a : Int)] w (Ans (gotL (lchAt (bl S) a)) w) := by
  have hv := byteAt_ba ha
  have h256 := UInt8.toNat_lt S[a]
  have m1 : ((S[a].toNat : Int) == 92) = false := by rw [← hv]; simp; omega
  have m2 : ((S[a].toNat : Int) != 92) = true := by rw [← hv]; simp; omega
  have d2 : decide ((S[a].toNat : Int) < 32) = false := by rw [← hv]; simp; omega
  have d4 : decide ((126 : Int) < S[a].toNat) = false := by rw [← hv]; simp; omega
  have HO := Lib.hid (show lchAt (bl S) a = .inr (S[a].toNat, a + 1) by rw [lchAt, if_neg h92, if_neg (by omega), hv])
  rw [HO.out]
  clear HO h92 h1 h2 hv
  go_enter Tryd.func111, Tryd.ntmps111
  repeat (first | go_values | go_skip | go_guarded | go_step | go_upon)
  go_ret3
  exact ⟨rfl, (by repeat (first | exact Below.refl _ _ | assumption | refine bal ?_ _ | refine bdr ?_ | refine bdrn ?_ _ | (refine bset ?_ (by first | exact Nat.le_refl _ | (simp; done) | (simp; omega) | omega) _) | refine bstep ?_ (by assumption)))⟩
set_option maxRecDepth 100000 in
set_option maxHeartbeats 1600000 in
theorem ls_end (S : ByteArray) (a : Nat) (w : World) (hs : S.size ≤ 140737488355328) (ha : a < S.size) (h92 : byteAt (bl S) a = 92) (hb : S.size ≤ a + 1) :
    Calls Tryd.prog 111 #[.string S, .int .i64 (a : Int)] w (Ans (gotL (lchAt (bl S) a)) w) := by
  have hv := byteAt_ba ha
  have h256 := UInt8.toNat_lt S[a]
  have m1 : ((S[a].toNat : Int) == 92) = true := by rw [← hv]; simp; omega
  have m2 : ((S[a].toNat : Int) != 92) = false := by rw [← hv]; simp; omega
  have d5 : decide ((S.size : Int) ≤ (a : Int) + 1) = true := by simp; omega
  have d3 : decide (S.size ≤ a + 1) = true := by simp; omega
  have HO := Lib.hid (show lchAt (bl S) a = .inl (3, S.size) by rw [lchAt, if_pos h92, lescAt, byteAt_bge hb, if_neg (by decide), if_neg (by decide), if_neg (by decide), if_neg (by decide), if_neg (by decide), wrongAt_bout hb])
  rw [HO.out]
  clear HO h92 hv hb
  go_enter Tryd.func111, Tryd.ntmps111
  repeat (first | go_values | go_skip | go_guarded | go_step | go_upon)
  go_ret3
  exact ⟨rfl, (by repeat (first | exact Below.refl _ _ | assumption | refine bal ?_ _ | refine bdr ?_ | refine bdrn ?_ _ | (refine bset ?_ (by first | exact Nat.le_refl _ | (simp; done) | (simp; omega) | omega) _) | refine bstep ?_ (by assumption)))⟩
set_option maxRecDepth 100000 in
set_option maxHeartbeats 1600000 in
theorem ls_n (S : ByteArray) (a : Nat) (w : World) (hs : S.size ≤ 140737488355328) (ha : a < S.size) (h92 : byteAt (bl S) a = 92) (hb : a + 1 < S.size) (hc : byteAt (bl S) (a + 1) = 110) :
    Calls Tryd.prog 111 #[.string S, .int .i64 (a : Int)] w (Ans (gotL (lchAt (bl S) a)) w) := by
  have hv := byteAt_ba ha
  have h256 := UInt8.toNat_lt S[a]
  have m1 : ((S[a].toNat : Int) == 92) = true := by rw [← hv]; simp; omega
  have m2 : ((S[a].toNat : Int) != 92) = false := by rw [← hv]; simp; omega
  have hv2 := byteAt_ba hb
  have h2562 := UInt8.toNat_lt S[a + 1]
  have d5 : decide ((S.size : Int) ≤ (a : Int) + 1) = false := by simp; omega
  have d3 : decide (S.size ≤ a + 1) = false := by simp; omega
  have ei : ((a : Int) + 1).toNat = a + 1 := by omega
  have b0 : 0 ≤ (a : Int) + 1 := by omega
  have b1 : (a : Int) + 1 < S.size := by omega
  have k110 : ((S[a + 1].toNat : Int) == 110) = true := by rw [← hv2]; simp; omega
  have k114 : ((S[a + 1].toNat : Int) == 114) = false := by rw [← hv2]; simp; omega
  have k116 : ((S[a + 1].toNat : Int) == 116) = false := by rw [← hv2]; simp; omega
  have k92 : ((S[a + 1].toNat : Int) == 92) = false := by rw [← hv2]; simp; omega
  have k34 : ((S[a + 1].toNat : Int) == 34) = false := by rw [← hv2]; simp; omega
  have k39 : ((S[a + 1].toNat : Int) == 39) = false := by rw [← hv2]; simp; omega
  have k120 : ((S[a + 1].toNat : Int) == 120) = false := by rw [← hv2]; simp; omega
  have HO := Lib.hid (show lchAt (bl S) a = .inr (10, a + 2) by rw [lchAt, if_pos h92, lescAt, hc]; rfl)
  rw [HO.out]
  clear HO h92 hv hv2 hc
  go_enter Tryd.func111, Tryd.ntmps111
  repeat (first | go_values | go_skip | go_guarded | go_step | go_upon)
  go_ret3
  exact ⟨rfl, (by repeat (first | exact Below.refl _ _ | assumption | refine bal ?_ _ | refine bdr ?_ | refine bdrn ?_ _ | (refine bset ?_ (by first | exact Nat.le_refl _ | (simp; done) | (simp; omega) | omega) _) | refine bstep ?_ (by assumption)))⟩
set_option maxRecDepth 100000 in
set_option maxHeartbeats 1600000 in
theorem ls_r (S : ByteArray) (a : Nat) (w : World) (hs : S.size ≤ 140737488355328) (ha : a < S.size) (h92 : byteAt (bl S) a = 92) (hb : a + 1 < S.size) (hc : byteAt (bl S) (a + 1) = 114) :
    Calls Tryd.prog 111 #[.string S, .int .i64 (a : Int)] w (Ans (gotL (lchAt (bl S) a)) w) := by
  have hv := byteAt_ba ha
  have h256 := UInt8.toNat_lt S[a]
  have m1 : ((S[a].toNat : Int) == 92) = true := by rw [← hv]; simp; omega
  have m2 : ((S[a].toNat : Int) != 92) = false := by rw [← hv]; simp; omega
  have hv2 := byteAt_ba hb
  have h2562 := UInt8.toNat_lt S[a + 1]
  have d5 : decide ((S.size : Int) ≤ (a : Int) + 1) = false := by simp; omega
  have d3 : decide (S.size ≤ a + 1) = false := by simp; omega
  have ei : ((a : Int) + 1).toNat = a + 1 := by omega
  have b0 : 0 ≤ (a : Int) + 1 := by omega
  have b1 : (a : Int) + 1 < S.size := by omega
  have k110 : ((S[a + 1].toNat : Int) == 110) = false := by rw [← hv2]; simp; omega
  have k114 : ((S[a + 1].toNat : Int) == 114) = true := by rw [← hv2]; simp; omega
  have k116 : ((S[a + 1].toNat : Int) == 116) = false := by rw [← hv2]; simp; omega
  have k92 : ((S[a + 1].toNat : Int) == 92) = false := by rw [← hv2]; simp; omega
  have k34 : ((S[a + 1].toNat : Int) == 34) = false := by rw [← hv2]; simp; omega
  have k39 : ((S[a + 1].toNat : Int) == 39) = false := by rw [← hv2]; simp; omega
  have k120 : ((S[a + 1].toNat : Int) == 120) = false := by rw [← hv2]; simp; omega
  have HO := Lib.hid (show lchAt (bl S) a = .inr (13, a + 2) by rw [lchAt, if_pos h92, lescAt, hc]; rfl)
  rw [HO.out]
  clear HO h92 hv hv2 hc
  go_enter Tryd.func111, Tryd.ntmps111
  repeat (first | go_values | go_skip | go_guarded | go_step | go_upon)
  go_ret3
  exact ⟨rfl, (by repeat (first | exact Below.refl _ _ | assumption | refine bal ?_ _ | refine bdr ?_ | refine bdrn ?_ _ | (refine bset ?_ (by first | exact Nat.le_refl _ | (simp; done) | (simp; omega) | omega) _) | refine bstep ?_ (by assumption)))⟩
set_option maxRecDepth 100000 in
set_option maxHeartbeats 1600000 in
theorem ls_t (S : ByteArray) (a : Nat) (w : World) (hs : S.size ≤ 140737488355328) (ha : a < S.size) (h92 : byteAt (bl S) a = 92) (hb : a + 1 < S.size) (hc : byteAt (bl S) (a + 1) = 116) :
    Calls Tryd.prog 111 #[.string S, .int .i64 (a : Int)] w (Ans (gotL (lchAt (bl S) a)) w) := by
  have hv := byteAt_ba ha
  have h256 := UInt8.toNat_lt S[a]
  have m1 : ((S[a].toNat : Int) == 92) = true := by rw [← hv]; simp; omega
  have m2 : ((S[a].toNat : Int) != 92) = false := by rw [← hv]; simp; omega
  have hv2 := byteAt_ba hb
  have h2562 := UInt8.toNat_lt S[a + 1]
  have d5 : decide ((S.size : Int) ≤ (a : Int) + 1) = false := by simp; omega
  have d3 : decide (S.size ≤ a + 1) = false := by simp; omega
  have ei : ((a : Int) + 1).toNat = a + 1 := by omega
  have b0 : 0 ≤ (a : Int) + 1 := by omega
  have b1 : (a : Int) + 1 < S.size := by omega
  have k110 : ((S[a + 1].toNat : Int) == 110) = false := by rw [← hv2]; simp; omega
  have k114 : ((S[a + 1].toNat : Int) == 114) = false := by rw [← hv2]; simp; omega
  have k116 : ((S[a + 1].toNat : Int) == 116) = true := by rw [← hv2]; simp; omega
  have k92 : ((S[a + 1].toNat : Int) == 92) = false := by rw [← hv2]; simp; omega
  have k34 : ((S[a + 1].toNat : Int) == 34) = false := by rw [← hv2]; simp; omega
  have k39 : ((S[a + 1].toNat : Int) == 39) = false := by rw [← hv2]; simp; omega
  have k120 : ((S[a + 1].toNat : Int) == 120) = false := by rw [← hv2]; simp; omega
  have HO := Lib.hid (show lchAt (bl S) a = .inr (9, a + 2) by rw [lchAt, if_pos h92, lescAt, hc]; rfl)
  rw [HO.out]
  clear HO h92 hv hv2 hc
  go_enter Tryd.func111, Tryd.ntmps111
  repeat (first | go_values | go_skip | go_guarded | go_step | go_upon)
  go_ret3
  exact ⟨rfl, (by repeat (first | exact Below.refl _ _ | assumption | refine bal ?_ _ | refine bdr ?_ | refine bdrn ?_ _ | (refine bset ?_ (by first | exact Nat.le_refl _ | (simp; done) | (simp; omega) | omega) _) | refine bstep ?_ (by assumption)))⟩
set_option maxRecDepth 100000 in
set_option maxHeartbeats 1600000 in
theorem ls_bs (S : ByteArray) (a : Nat) (w : World) (hs : S.size ≤ 140737488355328) (ha : a < S.size) (h92 : byteAt (bl S) a = 92) (hb : a + 1 < S.size) (hc : byteAt (bl S) (a + 1) = 92) :
    Calls Tryd.prog 111 #[.string S, .int .i64 (a : Int)] w (Ans (gotL (lchAt (bl S) a)) w) := by
  have hv := byteAt_ba ha
  have h256 := UInt8.toNat_lt S[a]
  have m1 : ((S[a].toNat : Int) == 92) = true := by rw [← hv]; simp; omega
  have m2 : ((S[a].toNat : Int) != 92) = false := by rw [← hv]; simp; omega
  have hv2 := byteAt_ba hb
  have h2562 := UInt8.toNat_lt S[a + 1]
  have d5 : decide ((S.size : Int) ≤ (a : Int) + 1) = false := by simp; omega
  have d3 : decide (S.size ≤ a + 1) = false := by simp; omega
  have ei : ((a : Int) + 1).toNat = a + 1 := by omega
  have b0 : 0 ≤ (a : Int) + 1 := by omega
  have b1 : (a : Int) + 1 < S.size := by omega
  have k110 : ((S[a + 1].toNat : Int) == 110) = false := by rw [← hv2]; simp; omega
  have k114 : ((S[a + 1].toNat : Int) == 114) = false := by rw [← hv2]; simp; omega
  have k116 : ((S[a + 1].toNat : Int) == 116) = false := by rw [← hv2]; simp; omega
  have k92 : ((S[a + 1].toNat : Int) == 92) = true := by rw [← hv2]; simp; omega
  have k34 : ((S[a + 1].toNat : Int) == 34) = false := by rw [← hv2]; simp; omega
  have k39 : ((S[a + 1].toNat : Int) == 39) = false := by rw [← hv2]; simp; omega
  have k120 : ((S[a + 1].toNat : Int) == 120) = false := by rw [← hv2]; simp; omega
  have hq : S[a + 1].toNat = 92 := by rw [← hv2]; exact hc
  have HQ := Lib.hid hq
  have HO := Lib.hid (show lchAt (bl S) a = .inr (S[a + 1].toNat, a + 2) by rw [lchAt, if_pos h92, lescAt, hc, hq]; rfl)
  rw [HO.out]
  clear HO h92 hv hv2 hc hq
  go_enter Tryd.func111, Tryd.ntmps111
  repeat (first | go_values | go_skip | go_guarded | go_step | go_upon)
  go_ret3
  exact ⟨rfl, (by repeat (first | exact Below.refl _ _ | assumption | refine bal ?_ _ | refine bdr ?_ | refine bdrn ?_ _ | (refine bset ?_ (by first | exact Nat.le_refl _ | (simp; done) | (simp; omega) | omega) _) | refine bstep ?_ (by assumption)))⟩
set_option maxRecDepth 100000 in
set_option maxHeartbeats 1600000 in
theorem ls_dq (S : ByteArray) (a : Nat) (w : World) (hs : S.size ≤ 140737488355328) (ha : a < S.size) (h92 : byteAt (bl S) a = 92) (hb : a + 1 < S.size) (hc : byteAt (bl S) (a + 1) = 34) :
    Calls Tryd.prog 111 #[.string S, .int .i64 (a : Int)] w (Ans (gotL (lchAt (bl S) a)) w) := by
  have hv := byteAt_ba ha
  have h256 := UInt8.toNat_lt S[a]
  have m1 : ((S[a].toNat : Int) == 92) = true := by rw [← hv]; simp; omega
  have m2 : ((S[a].toNat : Int) != 92) = false := by rw [← hv]; simp; omega
  have hv2 := byteAt_ba hb
  have h2562 := UInt8.toNat_lt S[a + 1]
  have d5 : decide ((S.size : Int) ≤ (a : Int) + 1) = false := by simp; omega
  have d3 : decide (S.size ≤ a + 1) = false := by simp; omega
  have ei : ((a : Int) + 1).toNat = a + 1 := by omega
  have b0 : 0 ≤ (a : Int) + 1 := by omega
  have b1 : (a : Int) + 1 < S.size := by omega
  have k110 : ((S[a + 1].toNat : Int) == 110) = false := by rw [← hv2]; simp; omega
  have k114 : ((S[a + 1].toNat : Int) == 114) = false := by rw [← hv2]; simp; omega
  have k116 : ((S[a + 1].toNat : Int) == 116) = false := by rw [← hv2]; simp; omega
  have k92 : ((S[a + 1].toNat : Int) == 92) = false := by rw [← hv2]; simp; omega
  have k34 : ((S[a + 1].toNat : Int) == 34) = true := by rw [← hv2]; simp; omega
  have k39 : ((S[a + 1].toNat : Int) == 39) = false := by rw [← hv2]; simp; omega
  have k120 : ((S[a + 1].toNat : Int) == 120) = false := by rw [← hv2]; simp; omega
  have hq : S[a + 1].toNat = 34 := by rw [← hv2]; exact hc
  have HQ := Lib.hid hq
  have HO := Lib.hid (show lchAt (bl S) a = .inr (S[a + 1].toNat, a + 2) by rw [lchAt, if_pos h92, lescAt, hc, hq]; rfl)
  rw [HO.out]
  clear HO h92 hv hv2 hc hq
  go_enter Tryd.func111, Tryd.ntmps111
  repeat (first | go_values | go_skip | go_guarded | go_step | go_upon)
  go_ret3
  exact ⟨rfl, (by repeat (first | exact Below.refl _ _ | assumption | refine bal ?_ _ | refine bdr ?_ | refine bdrn ?_ _ | (refine bset ?_ (by first | exact Nat.le_refl _ | (simp; done) | (simp; omega) | omega) _) | refine bstep ?_ (by assumption)))⟩
set_option maxRecDepth 100000 in
set_option maxHeartbeats 1600000 in
theorem ls_sq (S : ByteArray) (a : Nat) (w : World) (hs : S.size ≤ 140737488355328) (ha : a < S.size) (h92 : byteAt (bl S) a = 92) (hb : a + 1 < S.size) (hc : byteAt (bl S) (a + 1) = 39) :
    Calls Tryd.prog 111 #[.string S, .int .i64 (a : Int)] w (Ans (gotL (lchAt (bl S) a)) w) := by
  have hv := byteAt_ba ha
  have h256 := UInt8.toNat_lt S[a]
  have m1 : ((S[a].toNat : Int) == 92) = true := by rw [← hv]; simp; omega
  have m2 : ((S[a].toNat : Int) != 92) = false := by rw [← hv]; simp; omega
  have hv2 := byteAt_ba hb
  have h2562 := UInt8.toNat_lt S[a + 1]
  have d5 : decide ((S.size : Int) ≤ (a : Int) + 1) = false := by simp; omega
  have d3 : decide (S.size ≤ a + 1) = false := by simp; omega
  have ei : ((a : Int) + 1).toNat = a + 1 := by omega
  have b0 : 0 ≤ (a : Int) + 1 := by omega
  have b1 : (a : Int) + 1 < S.size := by omega
  have k110 : ((S[a + 1].toNat : Int) == 110) = false := by rw [← hv2]; simp; omega
  have k114 : ((S[a + 1].toNat : Int) == 114) = false := by rw [← hv2]; simp; omega
  have k116 : ((S[a + 1].toNat : Int) == 116) = false := by rw [← hv2]; simp; omega
  have k92 : ((S[a + 1].toNat : Int) == 92) = false := by rw [← hv2]; simp; omega
  have k34 : ((S[a + 1].toNat : Int) == 34) = false := by rw [← hv2]; simp; omega
  have k39 : ((S[a + 1].toNat : Int) == 39) = true := by rw [← hv2]; simp; omega
  have k120 : ((S[a + 1].toNat : Int) == 120) = false := by rw [← hv2]; simp; omega
  have hq : S[a + 1].toNat = 39 := by rw [← hv2]; exact hc
  have HQ := Lib.hid hq
  have HO := Lib.hid (show lchAt (bl S) a = .inr (S[a + 1].toNat, a + 2) by rw [lchAt, if_pos h92, lescAt, hc, hq]; rfl)
  rw [HO.out]
  clear HO h92 hv hv2 hc hq
  go_enter Tryd.func111, Tryd.ntmps111
  repeat (first | go_values | go_skip | go_guarded | go_step | go_upon)
  go_ret3
  exact ⟨rfl, (by repeat (first | exact Below.refl _ _ | assumption | refine bal ?_ _ | refine bdr ?_ | refine bdrn ?_ _ | (refine bset ?_ (by first | exact Nat.le_refl _ | (simp; done) | (simp; omega) | omega) _) | refine bstep ?_ (by assumption)))⟩
set_option maxRecDepth 100000 in
set_option maxHeartbeats 1600000 in
theorem ls_no (S : ByteArray) (a : Nat) (w : World) (hs : S.size ≤ 140737488355328) (ha : a < S.size) (h92 : byteAt (bl S) a = 92) (hb : a + 1 < S.size) (n1 : byteAt (bl S) (a + 1) ≠ 110) (n2 : byteAt (bl S) (a + 1) ≠ 114) (n3 : byteAt (bl S) (a + 1) ≠ 116) (n4 : byteAt (bl S) (a + 1) ≠ 92) (n5 : byteAt (bl S) (a + 1) ≠ 34) (n6 : byteAt (bl S) (a + 1) ≠ 39) (nx : byteAt (bl S) (a + 1) ≠ 120) :
    Calls Tryd.prog 111 #[.string S, .int .i64 (a : Int)] w (Ans (gotL (lchAt (bl S) a)) w) := by
  have hv := byteAt_ba ha
  have h256 := UInt8.toNat_lt S[a]
  have m1 : ((S[a].toNat : Int) == 92) = true := by rw [← hv]; simp; omega
  have m2 : ((S[a].toNat : Int) != 92) = false := by rw [← hv]; simp; omega
  have hv2 := byteAt_ba hb
  have h2562 := UInt8.toNat_lt S[a + 1]
  have d5 : decide ((S.size : Int) ≤ (a : Int) + 1) = false := by simp; omega
  have d3 : decide (S.size ≤ a + 1) = false := by simp; omega
  have ei : ((a : Int) + 1).toNat = a + 1 := by omega
  have b0 : 0 ≤ (a : Int) + 1 := by omega
  have b1 : (a : Int) + 1 < S.size := by omega
  have k110 : ((S[a + 1].toNat : Int) == 110) = false := by rw [← hv2]; simp; omega
  have k114 : ((S[a + 1].toNat : Int) == 114) = false := by rw [← hv2]; simp; omega
  have k116 : ((S[a + 1].toNat : Int) == 116) = false := by rw [← hv2]; simp; omega
  have k92 : ((S[a + 1].toNat : Int) == 92) = false := by rw [← hv2]; simp; omega
  have k34 : ((S[a + 1].toNat : Int) == 34) = false := by rw [← hv2]; simp; omega
  have k39 : ((S[a + 1].toNat : Int) == 39) = false := by rw [← hv2]; simp; omega
  have k120 : ((S[a + 1].toNat : Int) == 120) = false := by rw [← hv2]; simp; omega
  have HO := Lib.hid (show lchAt (bl S) a = .inl (4, a + 1) by rw [lchAt, if_pos h92, lescAt, if_neg n1, if_neg n2, if_neg n3, if_neg (by omega), if_neg nx, wrongAt_bin hb])
  rw [HO.out]
  clear HO h92 hv hv2 n1 n2 n3 n4 n5 n6 nx
  go_enter Tryd.func111, Tryd.ntmps111
  repeat (first | go_values | go_skip | go_guarded | go_step | go_upon)
  go_ret3
  exact ⟨rfl, (by repeat (first | exact Below.refl _ _ | assumption | refine bal ?_ _ | refine bdr ?_ | refine bdrn ?_ _ | (refine bset ?_ (by first | exact Nat.le_refl _ | (simp; done) | (simp; omega) | omega) _) | refine bstep ?_ (by assumption)))⟩
set_option maxRecDepth 100000 in
set_option maxHeartbeats 1600000 in
theorem ls_x1 (S : ByteArray) (a : Nat) (w : World) (hs : S.size ≤ 140737488355328) (ha : a < S.size) (h92 : byteAt (bl S) a = 92) (hb : a + 1 < S.size) (hc : byteAt (bl S) (a + 1) = 120) (he : S.size ≤ a + 2) :
    Calls Tryd.prog 111 #[.string S, .int .i64 (a : Int)] w (Ans (gotL (lchAt (bl S) a)) w) := by
  have hv := byteAt_ba ha
  have h256 := UInt8.toNat_lt S[a]
  have m1 : ((S[a].toNat : Int) == 92) = true := by rw [← hv]; simp; omega
  have m2 : ((S[a].toNat : Int) != 92) = false := by rw [← hv]; simp; omega
  have hv2 := byteAt_ba hb
  have h2562 := UInt8.toNat_lt S[a + 1]
  have d5 : decide ((S.size : Int) ≤ (a : Int) + 1) = false := by simp; omega
  have d3 : decide (S.size ≤ a + 1) = false := by simp; omega
  have ei : ((a : Int) + 1).toNat = a + 1 := by omega
  have b0 : 0 ≤ (a : Int) + 1 := by omega
  have b1 : (a : Int) + 1 < S.size := by omega
  have k110 : ((S[a + 1].toNat : Int) == 110) = false := by rw [← hv2]; simp; omega
  have k114 : ((S[a + 1].toNat : Int) == 114) = false := by rw [← hv2]; simp; omega
  have k116 : ((S[a + 1].toNat : Int) == 116) = false := by rw [← hv2]; simp; omega
  have k92 : ((S[a + 1].toNat : Int) == 92) = false := by rw [← hv2]; simp; omega
  have k34 : ((S[a + 1].toNat : Int) == 34) = false := by rw [← hv2]; simp; omega
  have k39 : ((S[a + 1].toNat : Int) == 39) = false := by rw [← hv2]; simp; omega
  have k120 : ((S[a + 1].toNat : Int) == 120) = true := by rw [← hv2]; simp; omega
  have ej : ((a : Int) + 2).toNat = a + 2 := by omega
  have dl : decide ((a : Int) + 2 < (a : Int) + 4) = true := by simp
  have dj : decide ((S.size : Int) ≤ (a : Int) + 2) = true := by simp; omega
  have HO := Lib.hid (show lchAt (bl S) a = .inl (3, S.size) by rw [lchAt, if_pos h92, lescAt, if_neg (by omega), if_neg (by omega), if_neg (by omega), if_neg (by omega), if_pos hc, hexAt, byteAt_bge he, if_pos (by decide), wrongAt_bout he])
  rw [HO.out]
  clear HO h92 hv hv2 hc he
  go_enter Tryd.func111, Tryd.ntmps111
  repeat (first | go_values | go_skip | go_guarded | go_step | go_upon)
  refine wp_loop_rounds 1 ?_
  rw [rounds_succ]
  repeat (first | go_values | go_skip | go_guarded | go_step | go_upon)
  go_ret3
  exact ⟨rfl, (by repeat (first | exact Below.refl _ _ | assumption | refine bal ?_ _ | refine bdr ?_ | refine bdrn ?_ _ | (refine bset ?_ (by first | exact Nat.le_refl _ | (simp; done) | (simp; omega) | omega) _) | refine bstep ?_ (by assumption)))⟩
set_option maxRecDepth 100000 in
set_option maxHeartbeats 1600000 in
theorem ls_x2 (S : ByteArray) (a : Nat) (w : World) (hs : S.size ≤ 140737488355328) (ha : a < S.size) (h92 : byteAt (bl S) a = 92) (hb : a + 1 < S.size) (hc : byteAt (bl S) (a + 1) = 120) (he : a + 2 < S.size) (hd : digV (byteAt (bl S) (a + 2)) = 16) :
    Calls Tryd.prog 111 #[.string S, .int .i64 (a : Int)] w (Ans (gotL (lchAt (bl S) a)) w) := by
  have hv := byteAt_ba ha
  have h256 := UInt8.toNat_lt S[a]
  have m1 : ((S[a].toNat : Int) == 92) = true := by rw [← hv]; simp; omega
  have m2 : ((S[a].toNat : Int) != 92) = false := by rw [← hv]; simp; omega
  have hv2 := byteAt_ba hb
  have h2562 := UInt8.toNat_lt S[a + 1]
  have d5 : decide ((S.size : Int) ≤ (a : Int) + 1) = false := by simp; omega
  have d3 : decide (S.size ≤ a + 1) = false := by simp; omega
  have ei : ((a : Int) + 1).toNat = a + 1 := by omega
  have b0 : 0 ≤ (a : Int) + 1 := by omega
  have b1 : (a : Int) + 1 < S.size := by omega
  have k110 : ((S[a + 1].toNat : Int) == 110) = false := by rw [← hv2]; simp; omega
  have k114 : ((S[a + 1].toNat : Int) == 114) = false := by rw [← hv2]; simp; omega
  have k116 : ((S[a + 1].toNat : Int) == 116) = false := by rw [← hv2]; simp; omega
  have k92 : ((S[a + 1].toNat : Int) == 92) = false := by rw [← hv2]; simp; omega
  have k34 : ((S[a + 1].toNat : Int) == 34) = false := by rw [← hv2]; simp; omega
  have k39 : ((S[a + 1].toNat : Int) == 39) = false := by rw [← hv2]; simp; omega
  have k120 : ((S[a + 1].toNat : Int) == 120) = true := by rw [← hv2]; simp; omega
  have ej : ((a : Int) + 2).toNat = a + 2 := by omega
  have dl : decide ((a : Int) + 2 < (a : Int) + 4) = true := by simp
  have dj : decide ((S.size : Int) ≤ (a : Int) + 2) = false := by simp; omega
  have b2 : 0 ≤ (a : Int) + 2 := by omega
  have b3 : (a : Int) + 2 < S.size := by omega
  have hv3 := byteAt_ba he
  have h2563 := UInt8.toNat_lt S[a + 2]
  have HD := Lib.hid (show digV S[a + 2].toNat = 16 by rw [← hv3]; exact hd)
  have HO := Lib.hid (show lchAt (bl S) a = .inl (4, a + 2) by rw [lchAt, if_pos h92, lescAt, if_neg (by omega), if_neg (by omega), if_neg (by omega), if_neg (by omega), if_pos hc, hexAt, if_pos hd, wrongAt_bin he])
  rw [HO.out]
  clear HO h92 hv hv2 hc hv3 hd
  go_enter Tryd.func111, Tryd.ntmps111
  repeat (first | go_values | go_skip | go_guarded | go_step | go_upon)
  refine wp_loop_rounds 1 ?_
  rw [rounds_succ]
  repeat (first | go_values | go_skip | go_guarded | go_step | go_upon)
  refine (hex_no _ _ h2563 HD.out).mono ?_
  rintro e w3 ⟨rfl, hb3⟩
  dsimp only
  repeat (first | go_values | go_skip | go_guarded | go_step | go_upon)
  go_ret3
  exact ⟨rfl, (by repeat (first | exact Below.refl _ _ | assumption | refine bal ?_ _ | refine bdr ?_ | refine bdrn ?_ _ | (refine bset ?_ (by first | exact Nat.le_refl _ | (simp; done) | (simp; omega) | omega) _) | refine bstep ?_ (by assumption)))⟩
set_option maxRecDepth 100000 in
set_option maxHeartbeats 1600000 in
theorem ls_x3 (S : ByteArray) (a : Nat) (w : World) (hs : S.size ≤ 140737488355328) (ha : a < S.size) (h92 : byteAt (bl S) a = 92) (hb : a + 1 < S.size) (hc : byteAt (bl S) (a + 1) = 120) (he : a + 2 < S.size) (hd : digV (byteAt (bl S) (a + 2)) ≠ 16) (hf : S.size ≤ a + 3) :
    Calls Tryd.prog 111 #[.string S, .int .i64 (a : Int)] w (Ans (gotL (lchAt (bl S) a)) w) := by
  have hv := byteAt_ba ha
  have h256 := UInt8.toNat_lt S[a]
  have m1 : ((S[a].toNat : Int) == 92) = true := by rw [← hv]; simp; omega
  have m2 : ((S[a].toNat : Int) != 92) = false := by rw [← hv]; simp; omega
  have hv2 := byteAt_ba hb
  have h2562 := UInt8.toNat_lt S[a + 1]
  have d5 : decide ((S.size : Int) ≤ (a : Int) + 1) = false := by simp; omega
  have d3 : decide (S.size ≤ a + 1) = false := by simp; omega
  have ei : ((a : Int) + 1).toNat = a + 1 := by omega
  have b0 : 0 ≤ (a : Int) + 1 := by omega
  have b1 : (a : Int) + 1 < S.size := by omega
  have k110 : ((S[a + 1].toNat : Int) == 110) = false := by rw [← hv2]; simp; omega
  have k114 : ((S[a + 1].toNat : Int) == 114) = false := by rw [← hv2]; simp; omega
  have k116 : ((S[a + 1].toNat : Int) == 116) = false := by rw [← hv2]; simp; omega
  have k92 : ((S[a + 1].toNat : Int) == 92) = false := by rw [← hv2]; simp; omega
  have k34 : ((S[a + 1].toNat : Int) == 34) = false := by rw [← hv2]; simp; omega
  have k39 : ((S[a + 1].toNat : Int) == 39) = false := by rw [← hv2]; simp; omega
  have k120 : ((S[a + 1].toNat : Int) == 120) = true := by rw [← hv2]; simp; omega
  have ej : ((a : Int) + 2).toNat = a + 2 := by omega
  have dl : decide ((a : Int) + 2 < (a : Int) + 4) = true := by simp
  have dj : decide ((S.size : Int) ≤ (a : Int) + 2) = false := by simp; omega
  have b2 : 0 ≤ (a : Int) + 2 := by omega
  have b3 : (a : Int) + 2 < S.size := by omega
  have hv3 := byteAt_ba he
  have h2563 := UInt8.toNat_lt S[a + 2]
  have HD := Lib.hid (show digV S[a + 2].toNat ≠ 16 by rw [← hv3]; exact hd)
  have l1 := digV_le S[a + 2].toNat
  have ek : ((a : Int) + 2 + 1).toNat = a + 3 := by omega
  have dm : decide ((a : Int) + 2 + 1 < (a : Int) + 4) = true := by simp; omega
  have dk : decide ((S.size : Int) ≤ (a : Int) + 2 + 1) = true := by simp; omega
  have HO := Lib.hid (show lchAt (bl S) a = .inl (3, S.size) by rw [lchAt, if_pos h92, lescAt, if_neg (by omega), if_neg (by omega), if_neg (by omega), if_neg (by omega), if_pos hc, hexAt, if_neg hd, lowAt, byteAt_bge hf, if_pos (by decide), wrongAt_bout hf])
  rw [HO.out]
  clear HO h92 hv hv2 hc hv3 hd hf
  go_enter Tryd.func111, Tryd.ntmps111
  repeat (first | go_values | go_skip | go_guarded | go_step | go_upon)
  refine wp_loop_rounds 2 ?_
  rw [rounds_succ]
  repeat (first | go_values | go_skip | go_guarded | go_step | go_upon)
  refine (hex_yes _ _ h2563 HD.out).mono ?_
  rintro e w3 ⟨rfl, hb3⟩
  dsimp only
  repeat (first | go_values | go_skip | go_guarded | go_step | go_upon)
  rw [rounds_succ]
  repeat (first | go_values | go_skip | go_guarded | go_step | go_upon)
  go_ret3
  exact ⟨rfl, (by repeat (first | exact Below.refl _ _ | assumption | refine bal ?_ _ | refine bdr ?_ | refine bdrn ?_ _ | (refine bset ?_ (by first | exact Nat.le_refl _ | (simp; done) | (simp; omega) | omega) _) | refine bstep ?_ (by assumption)))⟩
set_option maxRecDepth 100000 in
set_option maxHeartbeats 1600000 in
theorem ls_x4 (S : ByteArray) (a : Nat) (w : World) (hs : S.size ≤ 140737488355328) (ha : a < S.size) (h92 : byteAt (bl S) a = 92) (hb : a + 1 < S.size) (hc : byteAt (bl S) (a + 1) = 120) (he : a + 2 < S.size) (hd : digV (byteAt (bl S) (a + 2)) ≠ 16) (hf : a + 3 < S.size) (hg : digV (byteAt (bl S) (a + 3)) = 16) :
    Calls Tryd.prog 111 #[.string S, .int .i64 (a : Int)] w (Ans (gotL (lchAt (bl S) a)) w) := by
  have hv := byteAt_ba ha
  have h256 := UInt8.toNat_lt S[a]
  have m1 : ((S[a].toNat : Int) == 92) = true := by rw [← hv]; simp; omega
  have m2 : ((S[a].toNat : Int) != 92) = false := by rw [← hv]; simp; omega
  have hv2 := byteAt_ba hb
  have h2562 := UInt8.toNat_lt S[a + 1]
  have d5 : decide ((S.size : Int) ≤ (a : Int) + 1) = false := by simp; omega
  have d3 : decide (S.size ≤ a + 1) = false := by simp; omega
  have ei : ((a : Int) + 1).toNat = a + 1 := by omega
  have b0 : 0 ≤ (a : Int) + 1 := by omega
  have b1 : (a : Int) + 1 < S.size := by omega
  have k110 : ((S[a + 1].toNat : Int) == 110) = false := by rw [← hv2]; simp; omega
  have k114 : ((S[a + 1].toNat : Int) == 114) = false := by rw [← hv2]; simp; omega
  have k116 : ((S[a + 1].toNat : Int) == 116) = false := by rw [← hv2]; simp; omega
  have k92 : ((S[a + 1].toNat : Int) == 92) = false := by rw [← hv2]; simp; omega
  have k34 : ((S[a + 1].toNat : Int) == 34) = false := by rw [← hv2]; simp; omega
  have k39 : ((S[a + 1].toNat : Int) == 39) = false := by rw [← hv2]; simp; omega
  have k120 : ((S[a + 1].toNat : Int) == 120) = true := by rw [← hv2]; simp; omega
  have ej : ((a : Int) + 2).toNat = a + 2 := by omega
  have dl : decide ((a : Int) + 2 < (a : Int) + 4) = true := by simp
  have dj : decide ((S.size : Int) ≤ (a : Int) + 2) = false := by simp; omega
  have b2 : 0 ≤ (a : Int) + 2 := by omega
  have b3 : (a : Int) + 2 < S.size := by omega
  have hv3 := byteAt_ba he
  have h2563 := UInt8.toNat_lt S[a + 2]
  have HD := Lib.hid (show digV S[a + 2].toNat ≠ 16 by rw [← hv3]; exact hd)
  have l1 := digV_le S[a + 2].toNat
  have ek : ((a : Int) + 2 + 1).toNat = a + 3 := by omega
  have dm : decide ((a : Int) + 2 + 1 < (a : Int) + 4) = true := by simp; omega
  have dk : decide ((S.size : Int) ≤ (a : Int) + 2 + 1) = false := by simp; omega
  have b4 : 0 ≤ (a : Int) + 2 + 1 := by omega
  have b5 : (a : Int) + 2 + 1 < S.size := by omega
  have hv4 := byteAt_ba hf
  have h2564 := UInt8.toNat_lt S[a + 3]
  have HG := Lib.hid (show digV S[a + 3].toNat = 16 by rw [← hv4]; exact hg)
  have HO := Lib.hid (show lchAt (bl S) a = .inl (4, a + 3) by rw [lchAt, if_pos h92, lescAt, if_neg (by omega), if_neg (by omega), if_neg (by omega), if_neg (by omega), if_pos hc, hexAt, if_neg hd, lowAt, if_pos hg, wrongAt_bin hf])
  rw [HO.out]
  clear HO h92 hv hv2 hc hv3 hd hv4 hg
  go_enter Tryd.func111, Tryd.ntmps111
  repeat (first | go_values | go_skip | go_guarded | go_step | go_upon)
  refine wp_loop_rounds 2 ?_
  rw [rounds_succ]
  repeat (first | go_values | go_skip | go_guarded | go_step | go_upon)
  refine (hex_yes _ _ h2563 HD.out).mono ?_
  rintro e w3 ⟨rfl, hb3⟩
  dsimp only
  repeat (first | go_values | go_skip | go_guarded | go_step | go_upon)
  rw [rounds_succ]
  repeat (first | go_values | go_skip | go_guarded | go_step | go_upon)
  refine (hex_no _ _ h2564 HG.out).mono ?_
  rintro e w4 ⟨rfl, hb4⟩
  dsimp only
  repeat (first | go_values | go_skip | go_guarded | go_step | go_upon)
  go_ret3
  exact ⟨rfl, (by repeat (first | exact Below.refl _ _ | assumption | refine bal ?_ _ | refine bdr ?_ | refine bdrn ?_ _ | (refine bset ?_ (by first | exact Nat.le_refl _ | (simp; done) | (simp; omega) | omega) _) | refine bstep ?_ (by assumption)))⟩
set_option maxRecDepth 100000 in
set_option maxHeartbeats 1600000 in
theorem ls_x5 (S : ByteArray) (a : Nat) (w : World) (hs : S.size ≤ 140737488355328) (ha : a < S.size) (h92 : byteAt (bl S) a = 92) (hb : a + 1 < S.size) (hc : byteAt (bl S) (a + 1) = 120) (he : a + 2 < S.size) (hd : digV (byteAt (bl S) (a + 2)) ≠ 16) (hf : a + 3 < S.size) (hg : digV (byteAt (bl S) (a + 3)) ≠ 16) :
    Calls Tryd.prog 111 #[.string S, .int .i64 (a : Int)] w (Ans (gotL (lchAt (bl S) a)) w) := by
  have hv := byteAt_ba ha
  have h256 := UInt8.toNat_lt S[a]
  have m1 : ((S[a].toNat : Int) == 92) = true := by rw [← hv]; simp; omega
  have m2 : ((S[a].toNat : Int) != 92) = false := by rw [← hv]; simp; omega
  have hv2 := byteAt_ba hb
  have h2562 := UInt8.toNat_lt S[a + 1]
  have d5 : decide ((S.size : Int) ≤ (a : Int) + 1) = false := by simp; omega
  have d3 : decide (S.size ≤ a + 1) = false := by simp; omega
  have ei : ((a : Int) + 1).toNat = a + 1 := by omega
  have b0 : 0 ≤ (a : Int) + 1 := by omega
  have b1 : (a : Int) + 1 < S.size := by omega
  have k110 : ((S[a + 1].toNat : Int) == 110) = false := by rw [← hv2]; simp; omega
  have k114 : ((S[a + 1].toNat : Int) == 114) = false := by rw [← hv2]; simp; omega
  have k116 : ((S[a + 1].toNat : Int) == 116) = false := by rw [← hv2]; simp; omega
  have k92 : ((S[a + 1].toNat : Int) == 92) = false := by rw [← hv2]; simp; omega
  have k34 : ((S[a + 1].toNat : Int) == 34) = false := by rw [← hv2]; simp; omega
  have k39 : ((S[a + 1].toNat : Int) == 39) = false := by rw [← hv2]; simp; omega
  have k120 : ((S[a + 1].toNat : Int) == 120) = true := by rw [← hv2]; simp; omega
  have ej : ((a : Int) + 2).toNat = a + 2 := by omega
  have dl : decide ((a : Int) + 2 < (a : Int) + 4) = true := by simp
  have dj : decide ((S.size : Int) ≤ (a : Int) + 2) = false := by simp; omega
  have b2 : 0 ≤ (a : Int) + 2 := by omega
  have b3 : (a : Int) + 2 < S.size := by omega
  have hv3 := byteAt_ba he
  have h2563 := UInt8.toNat_lt S[a + 2]
  have HD := Lib.hid (show digV S[a + 2].toNat ≠ 16 by rw [← hv3]; exact hd)
  have l1 := digV_le S[a + 2].toNat
  have ek : ((a : Int) + 2 + 1).toNat = a + 3 := by omega
  have dm : decide ((a : Int) + 2 + 1 < (a : Int) + 4) = true := by simp; omega
  have dk : decide ((S.size : Int) ≤ (a : Int) + 2 + 1) = false := by simp; omega
  have b4 : 0 ≤ (a : Int) + 2 + 1 := by omega
  have b5 : (a : Int) + 2 + 1 < S.size := by omega
  have hv4 := byteAt_ba hf
  have h2564 := UInt8.toNat_lt S[a + 3]
  have HG := Lib.hid (show digV S[a + 3].toNat ≠ 16 by rw [← hv4]; exact hg)
  have l2 := digV_le S[a + 3].toNat
  have e9 : (16 * (digV S[a + 2].toNat : Int) + (digV S[a + 3].toNat : Int)) % 256 = 16 * (digV S[a + 2].toNat : Int) + (digV S[a + 3].toNat : Int) := by have h1 := HD.out; have h2 := HG.out; omega
  have dn : decide ((a : Int) + 2 + 1 + 1 < (a : Int) + 4) = false := by simp; omega
  have HO := Lib.hid (show lchAt (bl S) a = .inr (16 * digV S[a + 2].toNat + digV S[a + 3].toNat, a + 4) by rw [lchAt, if_pos h92, lescAt, if_neg (by omega), if_neg (by omega), if_neg (by omega), if_neg (by omega), if_pos hc, hexAt, if_neg hd, lowAt, if_neg hg, hv3, hv4])
  rw [HO.out]
  clear HO h92 hv hv2 hc hv3 hd hv4 hg
  go_enter Tryd.func111, Tryd.ntmps111
  repeat (first | go_values | go_skip | go_guarded | go_step | go_upon)
  refine wp_loop_rounds 3 ?_
  rw [rounds_succ]
  repeat (first | go_values | go_skip | go_guarded | go_step | go_upon)
  refine (hex_yes _ _ h2563 HD.out).mono ?_
  rintro e w3 ⟨rfl, hb3⟩
  dsimp only
  repeat (first | go_values | go_skip | go_guarded | go_step | go_upon)
  rw [rounds_succ]
  repeat (first | go_values | go_skip | go_guarded | go_step | go_upon)
  refine (hex_yes _ _ h2564 HG.out).mono ?_
  rintro e w4 ⟨rfl, hb4⟩
  dsimp only
  repeat (first | go_values | go_skip | go_guarded | go_step | go_upon)
  rw [rounds_succ]
  repeat (first | go_values | go_skip | go_guarded | go_step | go_upon)
  go_ret3
  exact ⟨rfl, (by repeat (first | exact Below.refl _ _ | assumption | refine bal ?_ _ | refine bdr ?_ | refine bdrn ?_ _ | (refine bset ?_ (by first | exact Nat.le_refl _ | (simp; done) | (simp; omega) | omega) _) | refine bstep ?_ (by assumption)))⟩
theorem lsign_any (S : ByteArray) (a : Nat) (w : World) (hs : S.size ≤ 140737488355328) (ha : a < S.size) :
    Calls Tryd.prog 111 #[.string S, .int .i64 (a : Int)] w (Ans (gotL (lchAt (bl S) a)) w) := by
  by_cases h92 : byteAt (bl S) a = 92
  · rcases Nat.lt_or_ge (a + 1) S.size with hb | hb
    · by_cases n1 : byteAt (bl S) (a + 1) = 110
      · exact ls_n S a w hs ha h92 hb n1
      by_cases n2 : byteAt (bl S) (a + 1) = 114
      · exact ls_r S a w hs ha h92 hb n2
      by_cases n3 : byteAt (bl S) (a + 1) = 116
      · exact ls_t S a w hs ha h92 hb n3
      by_cases n4 : byteAt (bl S) (a + 1) = 92
      · exact ls_bs S a w hs ha h92 hb n4
      by_cases n5 : byteAt (bl S) (a + 1) = 34
      · exact ls_dq S a w hs ha h92 hb n5
      by_cases n6 : byteAt (bl S) (a + 1) = 39
      · exact ls_sq S a w hs ha h92 hb n6
      by_cases hx : byteAt (bl S) (a + 1) = 120
      · rcases Nat.lt_or_ge (a + 2) S.size with he | he
        · by_cases hd : digV (byteAt (bl S) (a + 2)) = 16
          · exact ls_x2 S a w hs ha h92 hb hx he hd
          rcases Nat.lt_or_ge (a + 3) S.size with hf | hf
          · by_cases hg : digV (byteAt (bl S) (a + 3)) = 16
            · exact ls_x4 S a w hs ha h92 hb hx he hd hf hg
            · exact ls_x5 S a w hs ha h92 hb hx he hd hf hg
          · exact ls_x3 S a w hs ha h92 hb hx he hd hf
        · exact ls_x1 S a w hs ha h92 hb hx he
      · exact ls_no S a w hs ha h92 hb n1 n2 n3 n4 n5 n6 hx
    · exact ls_end S a w hs ha h92 hb
  · by_cases h1 : byteAt (bl S) a < 32
    · exact ls_lt S a w hs ha h92 h1
    by_cases h2 : 126 < byteAt (bl S) a
    · exact ls_gt S a w hs ha h92 h2
    · exact ls_ok S a w hs ha h92 h1 h2
theorem lsign_ok (S : ByteArray) (a : Nat) (w : World) (hs : S.size ≤ 140737488355328) (ha : a < S.size) {c n : Nat} (h : lchAt (bl S) a = .inr (c, n)) :
    Calls Tryd.prog 111 #[.string S, .int .i64 (a : Int)] w (Ans (.tuple #[.int .u8 (c : Int), .int .i64 (n : Int), .int .i64 0]) w) := by
  have := lsign_any S a w hs ha
  rw [h] at this
  exact this
theorem lsign_no (S : ByteArray) (a : Nat) (w : World) (hs : S.size ≤ 140737488355328) (ha : a < S.size) {e n : Nat} (h : lchAt (bl S) a = .inl (e, n)) :
    Calls Tryd.prog 111 #[.string S, .int .i64 (a : Int)] w (Ans (.tuple #[.int .u8 0, .int .i64 (n : Int), .int .i64 (e : Int)]) w) := by
  have := lsign_any S a w hs ha
  rw [h] at this
  exact this
end Go.Proofs.YtlohpplpnddfaaaDoor
namespace Go.Proofs.YtlohpplpnddfaaaDoor
open Go.RowKit

/-- A byte in a literal. -/
def qch (b : Nat) : List UInt8 :=
  if b = 10 then [92, 110] else if b = 13 then [92, 114] else if b = 9 then [92, 116] else if b = 39 then [92, 39] else if b = 92 then [92, 92]
  else if 32 ≤ b ∧ b ≤ 126 then [b.toUInt8] else [92, 120, hexd (b / 16), hexd (b % 16)]
/-- The first k bytes. -/
def quoTo (p : List UInt8) : Nat → List UInt8
  | 0 => [39]
  | k + 1 => quoTo p k ++ qch (byteAt p k)
/-- Bytes as a literal. -/
def quoted (p : List UInt8) : List UInt8 := quoTo p p.length ++ [39]
theorem qch_len (b : Nat) : 1 ≤ (qch b).length ∧ (qch b).length ≤ 4 := by
  unfold qch; repeat (first | split | simp)
theorem quoTo_len (p : List UInt8) : ∀ k, (quoTo p k).length ≤ 1 + 4 * k := by
  intro k
  induction k with
  | zero => simp [quoTo]
  | succ k ih => rw [quoTo, List.length_append]; have := qch_len (byteAt p k); omega
theorem qch_kinds (b : Nat) (_ : b < 256) : (b = 10 ∨ b = 13 ∨ b = 9 ∨ b = 39 ∨ b = 92) ∨ (b ≠ 10 ∧ b ≠ 13 ∧ b ≠ 9 ∧ b ≠ 39 ∧ b ≠ 92 ∧ 32 ≤ b ∧ b ≤ 126) ∨ (b ≠ 10 ∧ b ≠ 13 ∧ b ≠ 9 ∧ b ≠ 39 ∧ b ≠ 92 ∧ (b < 32 ∨ 126 < b)) := by omega
theorem qch_plain {b : Nat} (h : b ≠ 10 ∧ b ≠ 13 ∧ b ≠ 9 ∧ b ≠ 39 ∧ b ≠ 92 ∧ 32 ≤ b ∧ b ≤ 126) : qch b = [b.toUInt8] := by
  obtain ⟨h1, h2, h3, h4, h5, h6, h7⟩ := h
  unfold qch; rw [if_neg h1, if_neg h2, if_neg h3, if_neg h4, if_neg h5, if_pos ⟨h6, h7⟩]
theorem qch_hex {b : Nat} (h : b ≠ 10 ∧ b ≠ 13 ∧ b ≠ 9 ∧ b ≠ 39 ∧ b ≠ 92 ∧ (b < 32 ∨ 126 < b)) : qch b = [92, 120, hexd (b / 16), hexd (b % 16)] := by
  obtain ⟨h1, h2, h3, h4, h5, h6⟩ := h
  unfold qch; rw [if_neg h1, if_neg h2, if_neg h3, if_neg h4, if_neg h5, if_neg (by omega)]
theorem qmark_no' : ∀ b, b < 256 → (b == 10 || b == 13 || b == 9 || b == 39 || b == 92) = false → Lib.indexByte [10, 13, 9, 39, 92] b.toUInt8 = -1 := by decide +kernel
theorem qmark_no {b : Nat} (h : b < 256) (h1 : b ≠ 10) (h2 : b ≠ 13) (h3 : b ≠ 9) (h4 : b ≠ 39) (h5 : b ≠ 92) : Lib.indexByte [10, 13, 9, 39, 92] b.toUInt8 = -1 := qmark_no' b h (by simp [h1, h2, h3, h4, h5])
end Go.Proofs.YtlohpplpnddfaaaDoor
