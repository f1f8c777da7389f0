/- The walk of class.reader's method sign: behind a backslash. -/
import Derived.Test.YtjlcoldnhbkcgaaGreatDoorG5
namespace Go.Proofs.YtjlcoldnhbkcgaaGreatDoor
open Go.RowKit Go.Sort

theorem sgn_esc {s : List UInt8} {a : Nat} (hb : byteAt s a = 92) : sgnAt s a = escAt s (a + 1) := by rw [sgnAt, if_pos hb]
theorem pk_marked_no {b : Nat} (h : fiveB b = false) : pk [91, 93, 92, 45, 94] b = -1 := by
  unfold pk
  split
  · next hb => exact marked_no b hb h
  · rfl
set_option maxRecDepth 100000 in
set_option maxHeartbeats 3200000 in
theorem sign_n (R : Nat) (S : ByteArray) (a : Nat) (w : World) (h : RD R S a w) (hs : S.size ≤ 140737488355328) (hb : byteAt (bl S) a = 92) (h1 : byteAt (bl S) (a + 1) = 110) :
    Calls Tryz.prog 139 #[.pointer (some ⟨R, 0, none⟩)] w (SgnP R S w (sgnAt (bl S) a)) := by
  have HR := Lib.hid h
  have hl : a < S.size := by have := byteAt_in (s := bl S) (a := a) (by omega); rwa [bl_length] at this
  have HB := Lib.hid (show (byteAt (bl S) a == 92) = true by simpa using hb)
  have HG := Lib.hid (show sgnAt (bl S) a = .inr (10, a + 1 + 1) by rw [sgn_esc hb]; rw [escAt, h1]; rfl)
  have P1 := Lib.hid (show pk [110, 114, 116] (byteAt (bl S) (a + 1)) = (0 : Nat) by rw [h1]; decide)
  clear h hb h1
  go_enter Tryz.func139, Tryz.ntmps139
  repeat (first | go_values | go_skip | go_guarded | go_step | go_upon)
  refine (is_any R S a 92 true _ HR.out hs (by decide) HB.out).mono ?_
  rintro e w1 ⟨rfl, hb1⟩
  have t1 := below_rto HR.out hb1
  obtain ⟨c0, c1, fz⟩ := rd_cells t1.1
  dsimp only
  repeat (first | go_values | go_skip | go_guarded | go_step | go_upon)
  have t2 := rto_set (n := a + 1) t1
  refine (pick_yes R S (a + 1) [110, 114, 116] 0 _ t2.1 hs P1.out).mono ?_
  rintro e w3 ⟨rfl, u3⟩
  have t3 := rto_trans t2 u3
  dsimp only
  repeat (first | go_values | go_skip | go_guarded | go_step | go_upon)
  go_ret2
  refine SgnP.ok HG.out ?_ rfl t3
  decide +kernel
set_option maxRecDepth 100000 in
set_option maxHeartbeats 3200000 in
theorem sign_r (R : Nat) (S : ByteArray) (a : Nat) (w : World) (h : RD R S a w) (hs : S.size ≤ 140737488355328) (hb : byteAt (bl S) a = 92) (h1 : byteAt (bl S) (a + 1) = 114) :
    Calls Tryz.prog 139 #[.pointer (some ⟨R, 0, none⟩)] w (SgnP R S w (sgnAt (bl S) a)) := by
  have HR := Lib.hid h
  have hl : a < S.size := by have := byteAt_in (s := bl S) (a := a) (by omega); rwa [bl_length] at this
  have HB := Lib.hid (show (byteAt (bl S) a == 92) = true by simpa using hb)
  have HG := Lib.hid (show sgnAt (bl S) a = .inr (13, a + 1 + 1) by rw [sgn_esc hb]; rw [escAt, h1]; rfl)
  have P1 := Lib.hid (show pk [110, 114, 116] (byteAt (bl S) (a + 1)) = (1 : Nat) by rw [h1]; decide)
  clear h hb h1
  go_enter Tryz.func139, Tryz.ntmps139
  repeat (first | go_values | go_skip | go_guarded | go_step | go_upon)
  refine (is_any R S a 92 true _ HR.out hs (by decide) HB.out).mono ?_
  rintro e w1 ⟨rfl, hb1⟩
  have t1 := below_rto HR.out hb1
  obtain ⟨c0, c1, fz⟩ := rd_cells t1.1
  dsimp only
  repeat (first | go_values | go_skip | go_guarded | go_step | go_upon)
  have t2 := rto_set (n := a + 1) t1
  refine (pick_yes R S (a + 1) [110, 114, 116] 1 _ t2.1 hs P1.out).mono ?_
  rintro e w3 ⟨rfl, u3⟩
  have t3 := rto_trans t2 u3
  dsimp only
  repeat (first | go_values | go_skip | go_guarded | go_step | go_upon)
  go_ret2
  refine SgnP.ok HG.out ?_ rfl t3
  decide +kernel
set_option maxRecDepth 100000 in
set_option maxHeartbeats 3200000 in
theorem sign_t (R : Nat) (S : ByteArray) (a : Nat) (w : World) (h : RD R S a w) (hs : S.size ≤ 140737488355328) (hb : byteAt (bl S) a = 92) (h1 : byteAt (bl S) (a + 1) = 116) :
    Calls Tryz.prog 139 #[.pointer (some ⟨R, 0, none⟩)] w (SgnP R S w (sgnAt (bl S) a)) := by
  have HR := Lib.hid h
  have hl : a < S.size := by have := byteAt_in (s := bl S) (a := a) (by omega); rwa [bl_length] at this
  have HB := Lib.hid (show (byteAt (bl S) a == 92) = true by simpa using hb)
  have HG := Lib.hid (show sgnAt (bl S) a = .inr (9, a + 1 + 1) by rw [sgn_esc hb]; rw [escAt, h1]; rfl)
  have P1 := Lib.hid (show pk [110, 114, 116] (byteAt (bl S) (a + 1)) = (2 : Nat) by rw [h1]; decide)
  clear h hb h1
  go_enter Tryz.func139, Tryz.ntmps139
  repeat (first | go_values | go_skip | go_guarded | go_step | go_upon)
  refine (is_any R S a 92 true _ HR.out hs (by decide) HB.out).mono ?_
  rintro e w1 ⟨rfl, hb1⟩
  have t1 := below_rto HR.out hb1
  obtain ⟨c0, c1, fz⟩ := rd_cells t1.1
  dsimp only
  repeat (first | go_values | go_skip | go_guarded | go_step | go_upon)
  have t2 := rto_set (n := a + 1) t1
  refine (pick_yes R S (a + 1) [110, 114, 116] 2 _ t2.1 hs P1.out).mono ?_
  rintro e w3 ⟨rfl, u3⟩
  have t3 := rto_trans t2 u3
  dsimp only
  repeat (first | go_values | go_skip | go_guarded | go_step | go_upon)
  go_ret2
  refine SgnP.ok HG.out ?_ rfl t3
  decide +kernel
set_option maxRecDepth 100000 in
set_option maxHeartbeats 3200000 in
theorem sign_five_a (R : Nat) (S : ByteArray) (a : Nat) (w : World) (h : RD R S a w) (hs : S.size ≤ 140737488355328) (hb : byteAt (bl S) a = 92) (h1 : byteAt (bl S) (a + 1) = 91) :
    Calls Tryz.prog 139 #[.pointer (some ⟨R, 0, none⟩)] w (SgnP R S w (sgnAt (bl S) a)) := by
  have HR := Lib.hid h
  have hl : a < S.size := by have := byteAt_in (s := bl S) (a := a) (by omega); rwa [bl_length] at this
  have HB := Lib.hid (show (byteAt (bl S) a == 92) = true by simpa using hb)
  have HG := Lib.hid (show sgnAt (bl S) a = .inr (91, a + 1 + 1) by rw [sgn_esc hb]; rw [escAt, h1]; rfl)
  have P1 := Lib.hid (show pk [110, 114, 116] (byteAt (bl S) (a + 1)) = -1 by rw [h1]; decide)
  have P2 := Lib.hid (show pk [91, 93, 92, 45, 94] (byteAt (bl S) (a + 1)) = (0 : Nat) by rw [h1]; decide)
  clear h hb h1
  go_enter Tryz.func139, Tryz.ntmps139
  repeat (first | go_values | go_skip | go_guarded | go_step | go_upon)
  refine (is_any R S a 92 true _ HR.out hs (by decide) HB.out).mono ?_
  rintro e w1 ⟨rfl, hb1⟩
  have t1 := below_rto HR.out hb1
  obtain ⟨c0, c1, fz⟩ := rd_cells t1.1
  dsimp only
  repeat (first | go_values | go_skip | go_guarded | go_step | go_upon)
  have t2 := rto_set (n := a + 1) t1
  refine (pick_no R S (a + 1) [110, 114, 116] _ t2.1 hs P1.out).mono ?_
  rintro e w3 ⟨rfl, u3⟩
  have t3 := rto_trans t2 u3
  dsimp only
  repeat (first | go_values | go_skip | go_guarded | go_step | go_upon)
  refine (pick_yes R S (a + 1) [91, 93, 92, 45, 94] 0 _ t3.1 hs P2.out).mono ?_
  rintro e w4 ⟨rfl, u4⟩
  have t4 := rto_trans t3 u4
  dsimp only
  repeat (first | go_values | go_skip | go_guarded | go_step | go_upon)
  go_ret2
  refine SgnP.ok HG.out ?_ rfl t4
  decide +kernel
set_option maxRecDepth 100000 in
set_option maxHeartbeats 3200000 in
theorem sign_five_b (R : Nat) (S : ByteArray) (a : Nat) (w : World) (h : RD R S a w) (hs : S.size ≤ 140737488355328) (hb : byteAt (bl S) a = 92) (h1 : byteAt (bl S) (a + 1) = 93) :
    Calls Tryz.prog 139 #[.pointer (some ⟨R, 0, none⟩)] w (SgnP R S w (sgnAt (bl S) a)) := by
  have HR := Lib.hid h
  have hl : a < S.size := by have := byteAt_in (s := bl S) (a := a) (by omega); rwa [bl_length] at this
  have HB := Lib.hid (show (byteAt (bl S) a == 92) = true by simpa using hb)
  have HG := Lib.hid (show sgnAt (bl S) a = .inr (93, a + 1 + 1) by rw [sgn_esc hb]; rw [escAt, h1]; rfl)
  have P1 := Lib.hid (show pk [110, 114, 116] (byteAt (bl S) (a + 1)) = -1 by rw [h1]; decide)
  have P2 := Lib.hid (show pk [91, 93, 92, 45, 94] (byteAt (bl S) (a + 1)) = (1 : Nat) by rw [h1]; decide)
  clear h hb h1
  go_enter Tryz.func139, Tryz.ntmps139
  repeat (first | go_values | go_skip | go_guarded | go_step | go_upon)
  refine (is_any R S a 92 true _ HR.out hs (by decide) HB.out).mono ?_
  rintro e w1 ⟨rfl, hb1⟩
  have t1 := below_rto HR.out hb1
  obtain ⟨c0, c1, fz⟩ := rd_cells t1.1
  dsimp only
  repeat (first | go_values | go_skip | go_guarded | go_step | go_upon)
  have t2 := rto_set (n := a + 1) t1
  refine (pick_no R S (a + 1) [110, 114, 116] _ t2.1 hs P1.out).mono ?_
  rintro e w3 ⟨rfl, u3⟩
  have t3 := rto_trans t2 u3
  dsimp only
  repeat (first | go_values | go_skip | go_guarded | go_step | go_upon)
  refine (pick_yes R S (a + 1) [91, 93, 92, 45, 94] 1 _ t3.1 hs P2.out).mono ?_
  rintro e w4 ⟨rfl, u4⟩
  have t4 := rto_trans t3 u4
  dsimp only
  repeat (first | go_values | go_skip | go_guarded | go_step | go_upon)
  go_ret2
  refine SgnP.ok HG.out ?_ rfl t4
  decide +kernel
set_option maxRecDepth 100000 in
set_option maxHeartbeats 3200000 in
theorem sign_five_c (R : Nat) (S : ByteArray) (a : Nat) (w : World) (h : RD R S a w) (hs : S.size ≤ 140737488355328) (hb : byteAt (bl S) a = 92) (h1 : byteAt (bl S) (a + 1) = 92) :
    Calls Tryz.prog 139 #[.pointer (some ⟨R, 0, none⟩)] w (SgnP R S w (sgnAt (bl S) a)) := by
  have HR := Lib.hid h
  have hl : a < S.size := by have := byteAt_in (s := bl S) (a := a) (by omega); rwa [bl_length] at this
  have HB := Lib.hid (show (byteAt (bl S) a == 92) = true by simpa using hb)
  have HG := Lib.hid (show sgnAt (bl S) a = .inr (92, a + 1 + 1) by rw [sgn_esc hb]; rw [escAt, h1]; rfl)
  have P1 := Lib.hid (show pk [110, 114, 116] (byteAt (bl S) (a + 1)) = -1 by rw [h1]; decide)
  have P2 := Lib.hid (show pk [91, 93, 92, 45, 94] (byteAt (bl S) (a + 1)) = (2 : Nat) by rw [h1]; decide)
  clear h hb h1
  go_enter Tryz.func139, Tryz.ntmps139
  repeat (first | go_values | go_skip | go_guarded | go_step | go_upon)
  refine (is_any R S a 92 true _ HR.out hs (by decide) HB.out).mono ?_
  rintro e w1 ⟨rfl, hb1⟩
  have t1 := below_rto HR.out hb1
  obtain ⟨c0, c1, fz⟩ := rd_cells t1.1
  dsimp only
  repeat (first | go_values | go_skip | go_guarded | go_step | go_upon)
  have t2 := rto_set (n := a + 1) t1
  refine (pick_no R S (a + 1) [110, 114, 116] _ t2.1 hs P1.out).mono ?_
  rintro e w3 ⟨rfl, u3⟩
  have t3 := rto_trans t2 u3
  dsimp only
  repeat (first | go_values | go_skip | go_guarded | go_step | go_upon)
  refine (pick_yes R S (a + 1) [91, 93, 92, 45, 94] 2 _ t3.1 hs P2.out).mono ?_
  rintro e w4 ⟨rfl, u4⟩
  have t4 := rto_trans t3 u4
  dsimp only
  repeat (first | go_values | go_skip | go_guarded | go_step | go_upon)
  go_ret2
  refine SgnP.ok HG.out ?_ rfl t4
  decide +kernel
set_option maxRecDepth 100000 in
set_option maxHeartbeats 3200000 in
theorem sign_five_d (R : Nat) (S : ByteArray) (a : Nat) (w : World) (h : RD R S a w) (hs : S.size ≤ 140737488355328) (hb : byteAt (bl S) a = 92) (h1 : byteAt (bl S) (a + 1) = 45) :
    Calls Tryz.prog 139 #[.pointer (some ⟨R, 0, none⟩)] w (SgnP R S w (sgnAt (bl S) a)) := by
  have HR := Lib.hid h
  have hl : a < S.size := by have := byteAt_in (s := bl S) (a := a) (by omega); rwa [bl_length] at this
  have HB := Lib.hid (show (byteAt (bl S) a == 92) = true by simpa using hb)
  have HG := Lib.hid (show sgnAt (bl S) a = .inr (45, a + 1 + 1) by rw [sgn_esc hb]; rw [escAt, h1]; rfl)
  have P1 := Lib.hid (show pk [110, 114, 116] (byteAt (bl S) (a + 1)) = -1 by rw [h1]; decide)
  have P2 := Lib.hid (show pk [91, 93, 92, 45, 94] (byteAt (bl S) (a + 1)) = (3 : Nat) by rw [h1]; decide)
  clear h hb h1
  go_enter Tryz.func139, Tryz.ntmps139
  repeat (first | go_values | go_skip | go_guarded | go_step | go_upon)
  refine (is_any R S a 92 true _ HR.out hs (by decide) HB.out).mono ?_
  rintro e w1 ⟨rfl, hb1⟩
  have t1 := below_rto HR.out hb1
  obtain ⟨c0, c1, fz⟩ := rd_cells t1.1
  dsimp only
  repeat (first | go_values | go_skip | go_guarded | go_step | go_upon)
  have t2 := rto_set (n := a + 1) t1
  refine (pick_no R S (a + 1) [110, 114, 116] _ t2.1 hs P1.out).mono ?_
  rintro e w3 ⟨rfl, u3⟩
  have t3 := rto_trans t2 u3
  dsimp only
  repeat (first | go_values | go_skip | go_guarded | go_step | go_upon)
  refine (pick_yes R S (a + 1) [91, 93, 92, 45, 94] 3 _ t3.1 hs P2.out).mono ?_
  rintro e w4 ⟨rfl, u4⟩
  have t4 := rto_trans t3 u4
  dsimp only
  repeat (first | go_values | go_skip | go_guarded | go_step | go_upon)
  go_ret2
  refine SgnP.ok HG.out ?_ rfl t4
  decide +kernel
set_option maxRecDepth 100000 in
set_option maxHeartbeats 3200000 in
theorem sign_five_e (R : Nat) (S : ByteArray) (a : Nat) (w : World) (h : RD R S a w) (hs : S.size ≤ 140737488355328) (hb : byteAt (bl S) a = 92) (h1 : byteAt (bl S) (a + 1) = 94) :
    Calls Tryz.prog 139 #[.pointer (some ⟨R, 0, none⟩)] w (SgnP R S w (sgnAt (bl S) a)) := by
  have HR := Lib.hid h
  have hl : a < S.size := by have := byteAt_in (s := bl S) (a := a) (by omega); rwa [bl_length] at this
  have HB := Lib.hid (show (byteAt (bl S) a == 92) = true by simpa using hb)
  have HG := Lib.hid (show sgnAt (bl S) a = .inr (94, a + 1 + 1) by rw [sgn_esc hb]; rw [escAt, h1]; rfl)
  have P1 := Lib.hid (show pk [110, 114, 116] (byteAt (bl S) (a + 1)) = -1 by rw [h1]; decide)
  have P2 := Lib.hid (show pk [91, 93, 92, 45, 94] (byteAt (bl S) (a + 1)) = (4 : Nat) by rw [h1]; decide)
  clear h hb h1
  go_enter Tryz.func139, Tryz.ntmps139
  repeat (first | go_values | go_skip | go_guarded | go_step | go_upon)
  refine (is_any R S a 92 true _ HR.out hs (by decide) HB.out).mono ?_
  rintro e w1 ⟨rfl, hb1⟩
  have t1 := below_rto HR.out hb1
  obtain ⟨c0, c1, fz⟩ := rd_cells t1.1
  dsimp only
  repeat (first | go_values | go_skip | go_guarded | go_step | go_upon)
  have t2 := rto_set (n := a + 1) t1
  refine (pick_no R S (a + 1) [110, 114, 116] _ t2.1 hs P1.out).mono ?_
  rintro e w3 ⟨rfl, u3⟩
  have t3 := rto_trans t2 u3
  dsimp only
  repeat (first | go_values | go_skip | go_guarded | go_step | go_upon)
  refine (pick_yes R S (a + 1) [91, 93, 92, 45, 94] 4 _ t3.1 hs P2.out).mono ?_
  rintro e w4 ⟨rfl, u4⟩
  have t4 := rto_trans t3 u4
  dsimp only
  repeat (first | go_values | go_skip | go_guarded | go_step | go_upon)
  go_ret2
  refine SgnP.ok HG.out ?_ rfl t4
  decide +kernel
set_option maxRecDepth 100000 in
set_option maxHeartbeats 3200000 in
theorem sign_nox (R : Nat) (S : ByteArray) (a : Nat) (w : World) (h : RD R S a w) (hs : S.size ≤ 140737488355328) (hb : byteAt (bl S) a = 92) (n1 : byteAt (bl S) (a + 1) ≠ 110) (n2 : byteAt (bl S) (a + 1) ≠ 114) (n3 : byteAt (bl S) (a + 1) ≠ 116) (n5 : fiveB (byteAt (bl S) (a + 1)) = false) (nx : byteAt (bl S) (a + 1) ≠ 120) :
    Calls Tryz.prog 139 #[.pointer (some ⟨R, 0, none⟩)] w (SgnP R S w (sgnAt (bl S) a)) := by
  have HR := Lib.hid h
  have hl : a < S.size := by have := byteAt_in (s := bl S) (a := a) (by omega); rwa [bl_length] at this
  have HB := Lib.hid (show (byteAt (bl S) a == 92) = true by simpa using hb)
  have HG := Lib.hid (show sgnAt (bl S) a = .inl (wrongAt (bl S) (a + 1)) by rw [sgn_esc hb]; rw [escAt, if_neg n1, if_neg n2, if_neg n3, n5, if_neg (by decide), if_neg nx])
  have P1 := Lib.hid (show pk [110, 114, 116] (byteAt (bl S) (a + 1)) = -1 by rw [pk_letters _ (by have := byteAt_le (bl S) (a + 1); omega), if_neg n1, if_neg n2, if_neg n3])
  have P2 := Lib.hid (show pk [91, 93, 92, 45, 94] (byteAt (bl S) (a + 1)) = -1 from pk_marked_no n5)
  have P3 := Lib.hid (show pk [120] (byteAt (bl S) (a + 1)) = -1 by have := pk_one 120 (by decide) _ (show byteAt (bl S) (a + 1) < 257 by have := byteAt_le (bl S) (a + 1); omega); rw [if_neg nx] at this; exact this)
  clear h hb n1 n2 n3 n5 nx
  go_enter Tryz.func139, Tryz.ntmps139
  repeat (first | go_values | go_skip | go_guarded | go_step | go_upon)
  refine (is_any R S a 92 true _ HR.out hs (by decide) HB.out).mono ?_
  rintro e w1 ⟨rfl, hb1⟩
  have t1 := below_rto HR.out hb1
  obtain ⟨c0, c1, fz⟩ := rd_cells t1.1
  dsimp only
  repeat (first | go_values | go_skip | go_guarded | go_step | go_upon)
  have t2 := rto_set (n := a + 1) t1
  refine (pick_no R S (a + 1) [110, 114, 116] _ t2.1 hs P1.out).mono ?_
  rintro e w3 ⟨rfl, u3⟩
  have t3 := rto_trans t2 u3
  dsimp only
  repeat (first | go_values | go_skip | go_guarded | go_step | go_upon)
  refine (pick_no R S (a + 1) [91, 93, 92, 45, 94] _ t3.1 hs P2.out).mono ?_
  rintro e w4 ⟨rfl, u4⟩
  have t4 := rto_trans t3 u4
  dsimp only
  repeat (first | go_values | go_skip | go_guarded | go_step | go_upon)
  refine (pick_no R S (a + 1) [120] _ t4.1 hs P3.out).mono ?_
  rintro e w5 ⟨rfl, u5⟩
  have t5 := rto_trans t4 u5
  dsimp only
  repeat (first | go_values | go_skip | go_guarded | go_step | go_upon)
  refine (wrong_any R S (a + 1) _ t5.1 hs).mono ?_
  rintro e w9 ⟨⟨p, rfl, hp, hl⟩, hb9⟩
  dsimp only
  repeat (first | go_values | go_skip | go_guarded | go_step | go_upon)
  go_ret2
  exact SgnP.no HG.out t5 hp hl hb9
set_option maxRecDepth 100000 in
set_option maxHeartbeats 3200000 in
theorem sign_x1 (R : Nat) (S : ByteArray) (a : Nat) (w : World) (h : RD R S a w) (hs : S.size ≤ 140737488355328) (hb : byteAt (bl S) a = 92) (hx : byteAt (bl S) (a + 1) = 120) (hd : digV (byteAt (bl S) (a + 1 + 1)) = 16) :
    Calls Tryz.prog 139 #[.pointer (some ⟨R, 0, none⟩)] w (SgnP R S w (sgnAt (bl S) a)) := by
  have HR := Lib.hid h
  have hl : a < S.size := by have := byteAt_in (s := bl S) (a := a) (by omega); rwa [bl_length] at this
  have HB := Lib.hid (show (byteAt (bl S) a == 92) = true by simpa using hb)
  have HG := Lib.hid (show sgnAt (bl S) a = .inl (wrongAt (bl S) (a + 1 + 1)) by rw [sgn_esc hb]; rw [escAt, if_neg (by omega), if_neg (by omega), if_neg (by omega), if_neg (by rw [hx]; decide), if_pos hx, hexAt, if_pos hd])
  have P1 := Lib.hid (show pk [110, 114, 116] (byteAt (bl S) (a + 1)) = -1 by rw [hx]; decide)
  have P2 := Lib.hid (show pk [91, 93, 92, 45, 94] (byteAt (bl S) (a + 1)) = -1 by rw [hx]; decide)
  have P3 := Lib.hid (show pk [120] (byteAt (bl S) (a + 1)) = (0 : Nat) by rw [hx]; decide)
  have P4 := Lib.hid (show pk [48, 49, 50, 51, 52, 53, 54, 55, 56, 57, 97, 98, 99, 100, 101, 102] (byteAt (bl S) (a + 1 + 1)) = -1 by rw [pk_hexes _ (by have := byteAt_le (bl S) (a + 1 + 1); omega), if_pos hd])
  clear h hb hx hd
  go_enter Tryz.func139, Tryz.ntmps139
  repeat (first | go_values | go_skip | go_guarded | go_step | go_upon)
  refine (is_any R S a 92 true _ HR.out hs (by decide) HB.out).mono ?_
  rintro e w1 ⟨rfl, hb1⟩
  have t1 := below_rto HR.out hb1
  obtain ⟨c0, c1, fz⟩ := rd_cells t1.1
  dsimp only
  repeat (first | go_values | go_skip | go_guarded | go_step | go_upon)
  have t2 := rto_set (n := a + 1) t1
  refine (pick_no R S (a + 1) [110, 114, 116] _ t2.1 hs P1.out).mono ?_
  rintro e w3 ⟨rfl, u3⟩
  have t3 := rto_trans t2 u3
  dsimp only
  repeat (first | go_values | go_skip | go_guarded | go_step | go_upon)
  refine (pick_no R S (a + 1) [91, 93, 92, 45, 94] _ t3.1 hs P2.out).mono ?_
  rintro e w4 ⟨rfl, u4⟩
  have t4 := rto_trans t3 u4
  dsimp only
  repeat (first | go_values | go_skip | go_guarded | go_step | go_upon)
  refine (pick_yes R S (a + 1) [120] 0 _ t4.1 hs P3.out).mono ?_
  rintro e w5 ⟨rfl, u5⟩
  have t5 := rto_trans t4 u5
  dsimp only
  repeat (first | go_values | go_skip | go_guarded | go_step | go_upon)
  refine (pick_no R S (a + 1 + 1) [48, 49, 50, 51, 52, 53, 54, 55, 56, 57, 97, 98, 99, 100, 101, 102] _ t5.1 hs P4.out).mono ?_
  rintro e w6 ⟨rfl, u6⟩
  have t6 := rto_trans t5 u6
  dsimp only
  repeat (first | go_values | go_skip | go_guarded | go_step | go_upon)
  refine (wrong_any R S (a + 1 + 1) _ t6.1 hs).mono ?_
  rintro e w9 ⟨⟨p, rfl, hp, hl⟩, hb9⟩
  dsimp only
  repeat (first | go_values | go_skip | go_guarded | go_step | go_upon)
  go_ret2
  exact SgnP.no HG.out t6 hp hl hb9
set_option maxRecDepth 100000 in
set_option maxHeartbeats 3200000 in
theorem sign_x2 (R : Nat) (S : ByteArray) (a : Nat) (w : World) (h : RD R S a w) (hs : S.size ≤ 140737488355328) (hb : byteAt (bl S) a = 92) (hx : byteAt (bl S) (a + 1) = 120) (hd : digV (byteAt (bl S) (a + 1 + 1)) ≠ 16) (he : digV (byteAt (bl S) (a + 1 + 1 + 1)) = 16) :
    Calls Tryz.prog 139 #[.pointer (some ⟨R, 0, none⟩)] w (SgnP R S w (sgnAt (bl S) a)) := by
  have HR := Lib.hid h
  have hl : a < S.size := by have := byteAt_in (s := bl S) (a := a) (by omega); rwa [bl_length] at this
  have HB := Lib.hid (show (byteAt (bl S) a == 92) = true by simpa using hb)
  have HG := Lib.hid (show sgnAt (bl S) a = .inl (wrongAt (bl S) (a + 1 + 1 + 1)) by rw [sgn_esc hb]; rw [escAt, if_neg (by omega), if_neg (by omega), if_neg (by omega), if_neg (by rw [hx]; decide), if_pos hx, hexAt, if_neg hd, lowAt, if_pos he])
  have P1 := Lib.hid (show pk [110, 114, 116] (byteAt (bl S) (a + 1)) = -1 by rw [hx]; decide)
  have P2 := Lib.hid (show pk [91, 93, 92, 45, 94] (byteAt (bl S) (a + 1)) = -1 by rw [hx]; decide)
  have P3 := Lib.hid (show pk [120] (byteAt (bl S) (a + 1)) = (0 : Nat) by rw [hx]; decide)
  have P4 := Lib.hid (show pk [48, 49, 50, 51, 52, 53, 54, 55, 56, 57, 97, 98, 99, 100, 101, 102] (byteAt (bl S) (a + 1 + 1)) = (digV (byteAt (bl S) (a + 1 + 1)) : Nat) by rw [pk_hexes _ (by have := byteAt_le (bl S) (a + 1 + 1); omega), if_neg hd])
  have P5 := Lib.hid (show pk [48, 49, 50, 51, 52, 53, 54, 55, 56, 57, 97, 98, 99, 100, 101, 102] (byteAt (bl S) (a + 1 + 1 + 1)) = -1 by rw [pk_hexes _ (by have := byteAt_le (bl S) (a + 1 + 1 + 1); omega), if_pos he])
  clear h hb hx hd he
  go_enter Tryz.func139, Tryz.ntmps139
  repeat (first | go_values | go_skip | go_guarded | go_step | go_upon)
  refine (is_any R S a 92 true _ HR.out hs (by decide) HB.out).mono ?_
  rintro e w1 ⟨rfl, hb1⟩
  have t1 := below_rto HR.out hb1
  obtain ⟨c0, c1, fz⟩ := rd_cells t1.1
  dsimp only
  repeat (first | go_values | go_skip | go_guarded | go_step | go_upon)
  have t2 := rto_set (n := a + 1) t1
  refine (pick_no R S (a + 1) [110, 114, 116] _ t2.1 hs P1.out).mono ?_
  rintro e w3 ⟨rfl, u3⟩
  have t3 := rto_trans t2 u3
  dsimp only
  repeat (first | go_values | go_skip | go_guarded | go_step | go_upon)
  refine (pick_no R S (a + 1) [91, 93, 92, 45, 94] _ t3.1 hs P2.out).mono ?_
  rintro e w4 ⟨rfl, u4⟩
  have t4 := rto_trans t3 u4
  dsimp only
  repeat (first | go_values | go_skip | go_guarded | go_step | go_upon)
  refine (pick_yes R S (a + 1) [120] 0 _ t4.1 hs P3.out).mono ?_
  rintro e w5 ⟨rfl, u5⟩
  have t5 := rto_trans t4 u5
  dsimp only
  repeat (first | go_values | go_skip | go_guarded | go_step | go_upon)
  refine (pick_yes R S (a + 1 + 1) [48, 49, 50, 51, 52, 53, 54, 55, 56, 57, 97, 98, 99, 100, 101, 102] _ _ t5.1 hs P4.out).mono ?_
  rintro e w6 ⟨rfl, u6⟩
  have t6 := rto_trans t5 u6
  dsimp only
  repeat (first | go_values | go_skip | go_guarded | go_step | go_upon)
  refine (pick_no R S (a + 1 + 1 + 1) [48, 49, 50, 51, 52, 53, 54, 55, 56, 57, 97, 98, 99, 100, 101, 102] _ t6.1 hs P5.out).mono ?_
  rintro e w7 ⟨rfl, u7⟩
  have t7 := rto_trans t6 u7
  dsimp only
  repeat (first | go_values | go_skip | go_guarded | go_step | go_upon)
  refine (wrong_any R S (a + 1 + 1 + 1) _ t7.1 hs).mono ?_
  rintro e w9 ⟨⟨p, rfl, hp, hl⟩, hb9⟩
  dsimp only
  repeat (first | go_values | go_skip | go_guarded | go_step | go_upon)
  go_ret2
  exact SgnP.no HG.out t7 hp hl hb9
set_option maxRecDepth 100000 in
set_option maxHeartbeats 3200000 in
theorem sign_x3 (R : Nat) (S : ByteArray) (a : Nat) (w : World) (h : RD R S a w) (hs : S.size ≤ 140737488355328) (hb : byteAt (bl S) a = 92) (hx : byteAt (bl S) (a + 1) = 120) (hd : digV (byteAt (bl S) (a + 1 + 1)) ≠ 16) (he : digV (byteAt (bl S) (a + 1 + 1 + 1)) ≠ 16) :
    Calls Tryz.prog 139 #[.pointer (some ⟨R, 0, none⟩)] w (SgnP R S w (sgnAt (bl S) a)) := by
  have HR := Lib.hid h
  have hl : a < S.size := by have := byteAt_in (s := bl S) (a := a) (by omega); rwa [bl_length] at this
  have HB := Lib.hid (show (byteAt (bl S) a == 92) = true by simpa using hb)
  have HG := Lib.hid (show sgnAt (bl S) a = .inr (16 * digV (byteAt (bl S) (a + 1 + 1)) + digV (byteAt (bl S) (a + 1 + 1 + 1)), a + 1 + 1 + 1 + 1) by rw [sgn_esc hb]; rw [escAt, if_neg (by omega), if_neg (by omega), if_neg (by omega), if_neg (by rw [hx]; decide), if_pos hx, hexAt, if_neg hd, lowAt, if_neg he])
  have P1 := Lib.hid (show pk [110, 114, 116] (byteAt (bl S) (a + 1)) = -1 by rw [hx]; decide)
  have P2 := Lib.hid (show pk [91, 93, 92, 45, 94] (byteAt (bl S) (a + 1)) = -1 by rw [hx]; decide)
  have P3 := Lib.hid (show pk [120] (byteAt (bl S) (a + 1)) = (0 : Nat) by rw [hx]; decide)
  have P4 := Lib.hid (show pk [48, 49, 50, 51, 52, 53, 54, 55, 56, 57, 97, 98, 99, 100, 101, 102] (byteAt (bl S) (a + 1 + 1)) = (digV (byteAt (bl S) (a + 1 + 1)) : Nat) by rw [pk_hexes _ (by have := byteAt_le (bl S) (a + 1 + 1); omega), if_neg hd])
  have P5 := Lib.hid (show pk [48, 49, 50, 51, 52, 53, 54, 55, 56, 57, 97, 98, 99, 100, 101, 102] (byteAt (bl S) (a + 1 + 1 + 1)) = (digV (byteAt (bl S) (a + 1 + 1 + 1)) : Nat) by rw [pk_hexes _ (by have := byteAt_le (bl S) (a + 1 + 1 + 1); omega), if_neg he])
  have l1 := digV_le (byteAt (bl S) (a + 1 + 1))
  have l2 := digV_le (byteAt (bl S) (a + 1 + 1 + 1))
  clear h hb hx hd he
  go_enter Tryz.func139, Tryz.ntmps139
  repeat (first | go_values | go_skip | go_guarded | go_step | go_upon)
  refine (is_any R S a 92 true _ HR.out hs (by decide) HB.out).mono ?_
  rintro e w1 ⟨rfl, hb1⟩
  have t1 := below_rto HR.out hb1
  obtain ⟨c0, c1, fz⟩ := rd_cells t1.1
  dsimp only
  repeat (first | go_values | go_skip | go_guarded | go_step | go_upon)
  have t2 := rto_set (n := a + 1) t1
  refine (pick_no R S (a + 1) [110, 114, 116] _ t2.1 hs P1.out).mono ?_
  rintro e w3 ⟨rfl, u3⟩
  have t3 := rto_trans t2 u3
  dsimp only
  repeat (first | go_values | go_skip | go_guarded | go_step | go_upon)
  refine (pick_no R S (a + 1) [91, 93, 92, 45, 94] _ t3.1 hs P2.out).mono ?_
  rintro e w4 ⟨rfl, u4⟩
  have t4 := rto_trans t3 u4
  dsimp only
  repeat (first | go_values | go_skip | go_guarded | go_step | go_upon)
  refine (pick_yes R S (a + 1) [120] 0 _ t4.1 hs P3.out).mono ?_
  rintro e w5 ⟨rfl, u5⟩
  have t5 := rto_trans t4 u5
  dsimp only
  repeat (first | go_values | go_skip | go_guarded | go_step | go_upon)
  refine (pick_yes R S (a + 1 + 1) [48, 49, 50, 51, 52, 53, 54, 55, 56, 57, 97, 98, 99, 100, 101, 102] _ _ t5.1 hs P4.out).mono ?_
  rintro e w6 ⟨rfl, u6⟩
  have t6 := rto_trans t5 u6
  dsimp only
  repeat (first | go_values | go_skip | go_guarded | go_step | go_upon)
  refine (pick_yes R S (a + 1 + 1 + 1) [48, 49, 50, 51, 52, 53, 54, 55, 56, 57, 97, 98, 99, 100, 101, 102] _ _ t6.1 hs P5.out).mono ?_
  rintro e w7 ⟨rfl, u7⟩
  have t7 := rto_trans t6 u7
  dsimp only
  repeat (first | go_values | go_skip | go_guarded | go_step | go_upon)
  go_ret2
  refine SgnP.ok HG.out ?_ rfl t7
  omega
theorem rsgn_any (R : Nat) (S : ByteArray) (a : Nat) (w : World) (h : RD R S a w) (hs : S.size ≤ 140737488355328) :
    Calls Tryz.prog 139 #[.pointer (some ⟨R, 0, none⟩)] w (SgnP R S w (sgnAt (bl S) a)) := by
  by_cases hb : byteAt (bl S) a = 92
  · by_cases n1 : byteAt (bl S) (a + 1) = 110
    · exact sign_n R S a w h hs hb n1
    by_cases n2 : byteAt (bl S) (a + 1) = 114
    · exact sign_r R S a w h hs hb n2
    by_cases n3 : byteAt (bl S) (a + 1) = 116
    · exact sign_t R S a w h hs hb n3
    cases n5 : fiveB (byteAt (bl S) (a + 1))
    · by_cases hx : byteAt (bl S) (a + 1) = 120
      · by_cases hd : digV (byteAt (bl S) (a + 1 + 1)) = 16
        · exact sign_x1 R S a w h hs hb hx hd
        by_cases he : digV (byteAt (bl S) (a + 1 + 1 + 1)) = 16
        · exact sign_x2 R S a w h hs hb hx hd he
        · exact sign_x3 R S a w h hs hb hx hd he
      · exact sign_nox R S a w h hs hb n1 n2 n3 n5 hx
    · rcases five_list n5 with h5 | h5 | h5 | h5 | h5
      · exact sign_five_a R S a w h hs hb h5
      · exact sign_five_b R S a w h hs hb h5
      · exact sign_five_c R S a w h hs hb h5
      · exact sign_five_d R S a w h hs hb h5
      · exact sign_five_e R S a w h hs hb h5
  · exact sign_plain R S a w h hs (by simpa using hb)
end Go.Proofs.YtjlcoldnhbkcgaaGreatDoor
