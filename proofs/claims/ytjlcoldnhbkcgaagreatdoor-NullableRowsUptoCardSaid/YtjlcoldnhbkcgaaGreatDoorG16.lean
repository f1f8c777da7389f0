/- The walk of lex.cutter's method token. -/
import Derived.Test.YtjlcoldnhbkcgaaGreatDoorG15
import Derived.IntWalk
namespace Go.Proofs.YtjlcoldnhbkcgaaGreatDoor
open Go.RowKit Go.Sort

theorem nameGo_drop (s : List UInt8) (a : Nat) : ∀ f i, nameGo (s.drop a) 0 f i = nameGo s a f i := by
  intro f
  induction f with
  | zero => intro i; rfl
  | succ f ih =>
    intro i
    rw [nameGo, nameGo, ih, Nat.zero_add]
    have e : byteAt (s.drop a) i = byteAt s (a + i) := by simp [byteAt]
    rw [e]
theorem nameLen_drop (s : List UInt8) (a : Nat) : nameLen (s.drop a) 0 = nameLen s a := by
  have h := nameLen_spec s a
  apply nameLen_is
  · intro j hj
    have := h.1 j hj
    rw [Nat.zero_add]
    rwa [show byteAt (s.drop a) j = byteAt s (a + j) by simp [byteAt]]
  · rw [Nat.zero_add, show byteAt (s.drop a) (nameLen s a) = byteAt s (a + nameLen s a) by simp [byteAt]]
    exact h.2
theorem ba_of_bl {S : ByteArray} {l : List UInt8} (h : bl S = l) : S = ⟨l.toArray⟩ := by
  subst h
  apply ByteArray.ext
  simp [bl]
set_option maxRecDepth 100000 in
set_option maxHeartbeats 400000 in
theorem clone_as (U : ByteArray) (x : List UInt8) (w : World) (h : bl U = x) (hs : U.size ≤ 100000) : Calls Tryz.prog 82 #[.string U] w (Ans (.string ⟨x.toArray⟩) w) := by
  have e := ba_of_bl h
  have HE := Lib.hid e
  clear e h
  go_enter Tryz.func82, Tryz.ntmps82
  repeat (first | go_values | go_skip | go_guarded | go_step | go_upon)
  refine (Tryz.stringslite_Clone U _ (by omega)).mono ?_
  rintro e w1 ⟨rfl, hb1⟩
  dsimp only
  repeat (first | go_values | go_skip | go_guarded | go_step | go_upon)
  go_ret
  exact ⟨by rw [← HE.out]; rfl, (by repeat (first | exact Below.refl _ _ | assumption | refine bal ?_ _ | refine bdr ?_ | refine bdrn ?_ _ | (refine bset ?_ (by first | exact Nat.le_refl _ | (simp; done) | (simp; omega) | omega) _) | refine bstep ?_ (by assumption)))⟩
theorem pre_any (s p : ByteArray) (r : Bool) (w : World) (h : Lib.hasPrefix s.data.toList p.data.toList = r) : Calls Tryz.prog 83 #[.string s, .string p] w (Ans (.bool r) w) :=
  (Tryz.strings_HasPrefix s p w).mono fun e w' ⟨he, hw⟩ => ⟨by rw [he, h], by rw [hw]; exact Below.refl _ _⟩
theorem sign_yes : ∀ b : Nat, b < 256 → isSign b = true → b < 128 ∧ 0 ≤ Lib.indexByte [47, 38, 33, 63, 42, 43, 40, 41, 46] b.toUInt8 := by decide +kernel
theorem sign_no : ∀ b : Nat, b < 256 → isSign b = false → Lib.indexByte [47, 38, 33, 63, 42, 43, 40, 41, 46] b.toUInt8 = -1 := by decide +kernel
theorem CutP.form {C : Nat} {S : ByteArray} {l : List Tok} {w w' : World} {g : Got Tok} {e : Ending} (h : CutP C S l w g e w') : ∃ v, e = .returned v := by
  cases g with
  | inl er => obtain ⟨⟨p, rfl, _⟩, _⟩ := h; exact ⟨_, rfl⟩
  | inr q => exact ⟨_, h.1⟩
theorem cut_lift {C : Nat} {S : ByteArray} {l : List Tok} {w w3 w4 : World} {g : Got Tok} {e : Ending} (h : CutP C S l w3 g e w4) (hw : Below w.heap.size w w3) (hlt : C < w.heap.size) : CutP C S l w g e w4 := by
  cases g with
  | inl er =>
    obtain ⟨⟨p, he, hp, hl⟩, hb⟩ := h
    exact ⟨⟨p, he, hp, Nat.le_trans hw.size hl⟩, (hw.mono (Nat.le_of_lt hlt)).trans hb⟩
  | inr q => exact ⟨h.1, h.2.1, (hw.mono (Nat.le_of_lt hlt)).trans h.2.2⟩
theorem hp_is {T : ByteArray} {s : List UInt8} {a : Nat} {r : Bool} (h : bl T = s.drop a) (hr : (byteAt s a == 60 && byteAt s (a + 1) == 45) = r) : Lib.hasPrefix T.data.toList (⟨#[60, 45]⟩ : ByteArray).data.toList = r := by
  have h' : T.data.toList = s.drop a := h
  rw [h']
  have e0 : byteAt s a = byteAt (s.drop a) 0 := by simp [byteAt]
  have e1 : byteAt s (a + 1) = byteAt (s.drop a) 1 := by simp [byteAt]
  rw [e0, e1] at hr
  generalize s.drop a = l at *
  subst hr
  match l with
  | [] => rfl
  | [x] => simp [Lib.hasPrefix, byteAt, List.isPrefixOf]
  | x :: y :: l =>
    have k : ∀ (z : UInt8) (n : Nat), n < 256 → (n.toUInt8 == z) = (z.toNat == n) := by
      intro z n hn
      rw [Bool.eq_iff_iff]
      simp only [beq_iff_eq]
      constructor
      · rintro rfl; simp; omega
      · intro h; apply UInt8.toNat_inj.1; simp; omega
    have k1 := k x 60 (by decide)
    have k2 := k y 45 (by decide)
    show ((60 : Nat).toUInt8 == x && ((45 : Nat).toUInt8 == y && true)) = (x.toNat == 60 && y.toNat == 45)
    rw [k1, k2, Bool.and_true]
set_option maxRecDepth 100000 in
set_option maxHeartbeats 3200000 in
theorem tok_long (C : Nat) (S : ByteArray) (a : Nat) (l : List Tok) (w : World) (hg : Laid w) (h : CU C S a l w) (hs : S.size ≤ 100000) (ha : a < S.size) (_ : l.length ≤ 100000) (h1 : 32 < nameLen (bl S) a) :
    Calls Tryz.prog 58 #[.pointer (some ⟨C, 0, none⟩)] w (CutP C S l w (tokAt (bl S) a)) := by
  have HX := Lib.hid (show tokAt (bl S) a = .inl (2, a) by rw [tokAt, if_pos h1])
  have hlen := bl_length S
  have HC := Lib.hid h
  have HL := Lib.hid hg
  have hlt := h.lt
  obtain ⟨c0, c1⟩ := h.cells
  have a1 : a ≤ S.size := by omega
  have hT1 := kbl_extract S a a1
  have hT2 := kbl_size S a a1
  have hTb : ∀ h0 : 0 < (S.extract a S.size).size, (S.extract a S.size)[0].toNat = byteAt (bl S) a := by
    intro h0
    rw [← byteAt_ba h0, hT1]; simp [byteAt]
  have hTn : nameLen (bl (S.extract a S.size)) 0 = nameLen (bl S) a := by rw [hT1, nameLen_drop]
  generalize hT : S.extract a S.size = T at hT1 hT2 hTb hTn
  have HT := Lib.hid hT
  have h0 : 0 < T.size := by omega
  have hb := hTb h0
  have h256 := UInt8.toNat_lt T[0]
  have i0 : (0 : Int) < T.size := by omega
  have h140 : T.size ≤ 140737488355328 := by omega
  have N1 := Lib.hid hTn
  have T2 := Lib.hid hT2
  have hNT : nameLen (bl T) 0 ≤ T.size := by have := nameLen_in (bl T) 0 (by omega); rw [bl_length] at this; omega
  have hTS : T.size ≤ S.size := by omega
  have hTa : a + T.size = S.size := by omega
  have TA := Lib.hid hTa
  clear hTb hT hTn hT2 hTa
  have d1 : decide ((32 : Int) < (nameLen (bl T) 0 : Nat)) = true := by rw [N1.out]; simp; omega
  have T1 := Lib.hid hT1
  clear h hg hT1 hb h1
  generalize hN : nameLen (bl T) 0 = N at *
  have HN := Lib.hid hN
  clear hN
  go_enter Tryz.func58, Tryz.ntmps58
  repeat (first | go_values | go_skip | go_guarded | go_step | go_upon)
  go_region
  repeat (first | go_values | go_skip | go_guarded | go_step | go_upon)
  rw [HT.out]
  refine (lname_any T _ h140).mono ?_
  rintro e w1 ⟨rfl, hb1⟩
  rw [HN.out]
  have hw1 := bstep (drew_below w) hb1
  have u1 := HC.out.below hw1
  obtain ⟨e0, e1⟩ := u1.cells
  dsimp only
  repeat (first | go_values | go_skip | go_guarded | go_step | go_upon)
  refine (fault_any _ _ (2, a) _ rfl rfl).mono ?_
  rintro e w9 ⟨⟨p, rfl, hp, hl⟩, hb9⟩
  dsimp only [id]
  repeat (first | go_values | go_skip | go_guarded | go_step | go_upon)
  go_ret
  exact CutP.no HX.out rfl hp (Nat.le_trans hw1.size hl) ((hw1.mono (Nat.le_of_lt hlt)).trans (hb9.mono (by have := hw1.size; omega)))
set_option maxRecDepth 100000 in
set_option maxHeartbeats 3200000 in
theorem tok_name (C : Nat) (S : ByteArray) (a : Nat) (l : List Tok) (w : World) (hg : Laid w) (h : CU C S a l w) (hs : S.size ≤ 100000) (ha : a < S.size) (hll : l.length ≤ 100000) (h1 : nameLen (bl S) a ≤ 32) (h2 : 0 < nameLen (bl S) a) :
    Calls Tryz.prog 58 #[.pointer (some ⟨C, 0, none⟩)] w (CutP C S l w (tokAt (bl S) a)) := by
  have HX := Lib.hid (show tokAt (bl S) a = .inr (⟨1, ((bl S).drop a).take (nameLen (bl S) a), 0, a⟩, a + nameLen (bl S) a) by rw [tokAt, if_neg (by omega), if_pos h2])
  have hlen := bl_length S
  have HC := Lib.hid h
  have HL := Lib.hid hg
  have hlt := h.lt
  obtain ⟨c0, c1⟩ := h.cells
  have a1 : a ≤ S.size := by omega
  have hT1 := kbl_extract S a a1
  have hT2 := kbl_size S a a1
  have hTb : ∀ h0 : 0 < (S.extract a S.size).size, (S.extract a S.size)[0].toNat = byteAt (bl S) a := by
    intro h0
    rw [← byteAt_ba h0, hT1]; simp [byteAt]
  have hTn : nameLen (bl (S.extract a S.size)) 0 = nameLen (bl S) a := by rw [hT1, nameLen_drop]
  generalize hT : S.extract a S.size = T at hT1 hT2 hTb hTn
  have HT := Lib.hid hT
  have h0 : 0 < T.size := by omega
  have hb := hTb h0
  have h256 := UInt8.toNat_lt T[0]
  have i0 : (0 : Int) < T.size := by omega
  have h140 : T.size ≤ 140737488355328 := by omega
  have N1 := Lib.hid hTn
  have T2 := Lib.hid hT2
  have hNT : nameLen (bl T) 0 ≤ T.size := by have := nameLen_in (bl T) 0 (by omega); rw [bl_length] at this; omega
  have hTS : T.size ≤ S.size := by omega
  have hTa : a + T.size = S.size := by omega
  have TA := Lib.hid hTa
  clear hTb hT hTn hT2 hTa
  have d1 : decide ((32 : Int) < (nameLen (bl T) 0 : Nat)) = false := by rw [N1.out]; simp; omega
  have d2 : decide ((0 : Int) < (nameLen (bl T) 0 : Nat)) = true := by rw [N1.out]; simp; omega
  have d3 : decide (0 < nameLen (bl T) 0) = true := by rw [N1.out]; simp; omega
  have d4 : 0 < nameLen (bl T) 0 := by rw [N1.out]; omega
  have HK := Lib.hid (show bl (T.extract 0 (nameLen (bl T) 0)) = ((bl S).drop a).take (nameLen (bl S) a) by rw [N1.out, ← hT1]; simp [bl, ByteArray.data_extract])
  have KS := Lib.hid (show (T.extract 0 (nameLen (bl T) 0)).size ≤ 100000 by simp [ByteArray.size_extract]; omega)
  have T1 := Lib.hid hT1
  clear h hg hT1 hb h1 h2
  generalize hN : nameLen (bl T) 0 = N at *
  have HN := Lib.hid hN
  clear hN
  go_enter Tryz.func58, Tryz.ntmps58
  repeat (first | go_values | go_skip | go_guarded | go_step | go_upon)
  go_region
  repeat (first | go_values | go_skip | go_guarded | go_step | go_upon)
  rw [HT.out]
  refine (lname_any T _ h140).mono ?_
  rintro e w1 ⟨rfl, hb1⟩
  rw [HN.out]
  have hw1 := bstep (drew_below w) hb1
  have u1 := HC.out.below hw1
  obtain ⟨e0, e1⟩ := u1.cells
  dsimp only
  repeat (first | go_values | go_skip | go_guarded | go_step | go_upon)
  have hwr : IntKind.i64.wrap ((a : Int) + (N : Int)) = (a : Int) + N := IntWalk.i64_in _ (by omega)
  go_region_with (first | (go_at_call 82; refine (clone_as _ _ _ HK.out KS.out).mono ?_; rintro e w2 ⟨rfl, hb2⟩; have u2 := (u1.below (drew_below _)).below hb2; obtain ⟨f0, f1⟩ := u2.cells) | (go_at_call 59; refine (add_as C S a l 1 _ _ (a + N) _ u2 (by omega) hll).mono ?_; rintro e w3 ⟨rfl, u3, hb3⟩))
  all_goals
    repeat (first | go_values | go_skip | go_guarded | go_step | go_upon)
    go_ret
    exact CutP.ok (by rw [HX.out, ← N1.out]) rfl u3 (((bstep (bstep hw1 (drew_below _)) hb2).mono (Nat.le_of_lt hlt)).trans hb3)
set_option maxRecDepth 100000 in
set_option maxHeartbeats 3200000 in
theorem tok_sign (C : Nat) (S : ByteArray) (a : Nat) (l : List Tok) (w : World) (hg : Laid w) (h : CU C S a l w) (hs : S.size ≤ 100000) (ha : a < S.size) (hll : l.length ≤ 100000) (h2 : nameLen (bl S) a = 0) (h3 : isSign (byteAt (bl S) a) = true) :
    Calls Tryz.prog 58 #[.pointer (some ⟨C, 0, none⟩)] w (CutP C S l w (tokAt (bl S) a)) := by
  have HX := Lib.hid (show tokAt (bl S) a = .inr (⟨5, [(byteAt (bl S) a).toUInt8], 0, a⟩, a + 1) by rw [tokAt, h2, if_neg (by decide), if_neg (by decide), if_pos h3])
  have hlen := bl_length S
  have HC := Lib.hid h
  have HL := Lib.hid hg
  have hlt := h.lt
  obtain ⟨c0, c1⟩ := h.cells
  have a1 : a ≤ S.size := by omega
  have hT1 := kbl_extract S a a1
  have hT2 := kbl_size S a a1
  have hTb : ∀ h0 : 0 < (S.extract a S.size).size, (S.extract a S.size)[0].toNat = byteAt (bl S) a := by
    intro h0
    rw [← byteAt_ba h0, hT1]; simp [byteAt]
  have hTn : nameLen (bl (S.extract a S.size)) 0 = nameLen (bl S) a := by rw [hT1, nameLen_drop]
  generalize hT : S.extract a S.size = T at hT1 hT2 hTb hTn
  have HT := Lib.hid hT
  have h0 : 0 < T.size := by omega
  have hb := hTb h0
  have h256 := UInt8.toNat_lt T[0]
  have i0 : (0 : Int) < T.size := by omega
  have h140 : T.size ≤ 140737488355328 := by omega
  have N1 := Lib.hid hTn
  have T2 := Lib.hid hT2
  have hNT : nameLen (bl T) 0 ≤ T.size := by have := nameLen_in (bl T) 0 (by omega); rw [bl_length] at this; omega
  have hTS : T.size ≤ S.size := by omega
  have hTa : a + T.size = S.size := by omega
  have TA := Lib.hid hTa
  clear hTb hT hTn hT2 hTa
  have d1 : decide ((32 : Int) < (nameLen (bl T) 0 : Nat)) = false := by rw [N1.out]; simp; omega
  have d2 : decide ((0 : Int) < (nameLen (bl T) 0 : Nat)) = false := by rw [N1.out]; simp; omega
  have d3 : decide (0 < nameLen (bl T) 0) = false := by rw [N1.out]; simp; omega
  have hvb : byteAt (bl S) a < 256 := by omega
  obtain ⟨h128, hix⟩ := sign_yes T[0].toNat h256 (by rw [hb]; exact h3)
  obtain ⟨j, hj⟩ := Int.eq_ofNat_of_zero_le hix
  have HI := Lib.hid (fun w' => idx_any ⟨#[47, 38, 33, 63, 42, 43, 40, 41, 46]⟩ (T[0].toNat : Int) (j : Int) w' (by simpa using hj))
  have HE := Lib.hid (enc_one T[0].toNat h128)
  have HB := Lib.hid hb
  have T1 := Lib.hid hT1
  clear h hg hT1 hb h2 h3 hix hj h128 hvb
  generalize hN : nameLen (bl T) 0 = N at *
  have HN := Lib.hid hN
  clear hN
  go_enter Tryz.func58, Tryz.ntmps58
  repeat (first | go_values | go_skip | go_guarded | go_step | go_upon)
  go_region
  repeat (first | go_values | go_skip | go_guarded | go_step | go_upon)
  rw [HT.out]
  refine (lname_any T _ h140).mono ?_
  rintro e w1 ⟨rfl, hb1⟩
  rw [HN.out]
  have hw1 := bstep (drew_below w) hb1
  have u1 := HC.out.below hw1
  obtain ⟨e0, e1⟩ := u1.cells
  dsimp only
  repeat (first | go_values | go_skip | go_guarded | go_step | go_upon)
  refine (HI.out _).mono ?_
  rintro e w2 ⟨rfl, hb2⟩
  have hw2 := bstep hw1 hb2
  have u2 := u1.below hb2
  obtain ⟨f0, f1⟩ := u2.cells
  dsimp only
  repeat (first | go_values | go_skip | go_guarded | go_step | go_upon)
  rw [HE.out]
  refine (add_as C S a l 5 [T[0].toNat.toUInt8] _ (a + 1) _ u2 (by omega) hll).mono ?_
  rintro e w3 ⟨rfl, u3, hb3⟩
  dsimp only
  repeat (first | go_values | go_skip | go_guarded | go_step | go_upon)
  go_ret
  exact CutP.ok (by rw [HX.out, HB.out]) rfl u3 ((hw2.mono (Nat.le_of_lt hlt)).trans hb3)
set_option maxRecDepth 100000 in
set_option maxHeartbeats 3200000 in
theorem tok_arrow (C : Nat) (S : ByteArray) (a : Nat) (l : List Tok) (w : World) (hg : Laid w) (h : CU C S a l w) (hs : S.size ≤ 100000) (ha : a < S.size) (hll : l.length ≤ 100000) (h2 : nameLen (bl S) a = 0) (h3 : isSign (byteAt (bl S) a) = false) (h4 : byteAt (bl S) a = 60 ∧ byteAt (bl S) (a + 1) = 45) :
    Calls Tryz.prog 58 #[.pointer (some ⟨C, 0, none⟩)] w (CutP C S l w (tokAt (bl S) a)) := by
  have HX := Lib.hid (show tokAt (bl S) a = .inr (⟨2, [], 0, a⟩, a + 2) by rw [tokAt, h2, if_neg (by decide), if_neg (by decide), h3, if_neg (by decide), if_pos h4])
  have hlen := bl_length S
  have HC := Lib.hid h
  have HL := Lib.hid hg
  have hlt := h.lt
  obtain ⟨c0, c1⟩ := h.cells
  have a1 : a ≤ S.size := by omega
  have hT1 := kbl_extract S a a1
  have hT2 := kbl_size S a a1
  have hTb : ∀ h0 : 0 < (S.extract a S.size).size, (S.extract a S.size)[0].toNat = byteAt (bl S) a := by
    intro h0
    rw [← byteAt_ba h0, hT1]; simp [byteAt]
  have hTn : nameLen (bl (S.extract a S.size)) 0 = nameLen (bl S) a := by rw [hT1, nameLen_drop]
  generalize hT : S.extract a S.size = T at hT1 hT2 hTb hTn
  have HT := Lib.hid hT
  have h0 : 0 < T.size := by omega
  have hb := hTb h0
  have h256 := UInt8.toNat_lt T[0]
  have i0 : (0 : Int) < T.size := by omega
  have h140 : T.size ≤ 140737488355328 := by omega
  have N1 := Lib.hid hTn
  have T2 := Lib.hid hT2
  have hNT : nameLen (bl T) 0 ≤ T.size := by have := nameLen_in (bl T) 0 (by omega); rw [bl_length] at this; omega
  have hTS : T.size ≤ S.size := by omega
  have hTa : a + T.size = S.size := by omega
  have TA := Lib.hid hTa
  clear hTb hT hTn hT2 hTa
  have d1 : decide ((32 : Int) < (nameLen (bl T) 0 : Nat)) = false := by rw [N1.out]; simp; omega
  have d2 : decide ((0 : Int) < (nameLen (bl T) 0 : Nat)) = false := by rw [N1.out]; simp; omega
  have d3 : decide (0 < nameLen (bl T) 0) = false := by rw [N1.out]; simp; omega
  have hvb : byteAt (bl S) a < 256 := by omega
  have HI := Lib.hid (fun w' => idx_any ⟨#[47, 38, 33, 63, 42, 43, 40, 41, 46]⟩ (T[0].toNat : Int) (-1) w' (by simpa using sign_no T[0].toNat h256 (by rw [hb]; exact h3)))
  have HF := Lib.hid (fun w' => pre_any T ⟨#[60, 45]⟩ true w' (hp_is hT1 (by simp [h4])))
  have T1 := Lib.hid hT1
  clear h hg hT1 hb h2 h3 h4 hvb
  generalize hN : nameLen (bl T) 0 = N at *
  have HN := Lib.hid hN
  clear hN
  go_enter Tryz.func58, Tryz.ntmps58
  repeat (first | go_values | go_skip | go_guarded | go_step | go_upon)
  go_region
  repeat (first | go_values | go_skip | go_guarded | go_step | go_upon)
  rw [HT.out]
  refine (lname_any T _ h140).mono ?_
  rintro e w1 ⟨rfl, hb1⟩
  rw [HN.out]
  have hw1 := bstep (drew_below w) hb1
  have u1 := HC.out.below hw1
  obtain ⟨e0, e1⟩ := u1.cells
  dsimp only
  repeat (first | go_values | go_skip | go_guarded | go_step | go_upon)
  refine (HI.out _).mono ?_
  rintro e w2 ⟨rfl, hb2⟩
  have hw2 := bstep hw1 hb2
  have u2 := u1.below hb2
  obtain ⟨f0, f1⟩ := u2.cells
  dsimp only
  repeat (first | go_values | go_skip | go_guarded | go_step | go_upon)
  refine (HF.out _).mono ?_
  rintro e w3 ⟨rfl, hb3⟩
  have hw3 := bstep hw2 hb3
  have u3 := u2.below hb3
  obtain ⟨g0, g1⟩ := u3.cells
  dsimp only
  repeat (first | go_values | go_skip | go_guarded | go_step | go_upon)
  refine (add_as C S a l 2 [] _ (a + 2) _ u3 (by omega) hll).mono ?_
  rintro e w4 ⟨rfl, u4, hb4⟩
  dsimp only
  repeat (first | go_values | go_skip | go_guarded | go_step | go_upon)
  go_ret
  exact CutP.ok HX.out rfl u4 ((hw3.mono (Nat.le_of_lt hlt)).trans hb4)
set_option maxRecDepth 100000 in
set_option maxHeartbeats 3200000 in
theorem tok_sq (C : Nat) (S : ByteArray) (a : Nat) (l : List Tok) (w : World) (hg : Laid w) (h : CU C S a l w) (hs : S.size ≤ 100000) (ha : a < S.size) (hll : l.length ≤ 100000) (h2 : nameLen (bl S) a = 0) (h3 : isSign (byteAt (bl S) a) = false) (h4 : ¬ (byteAt (bl S) a = 60 ∧ byteAt (bl S) (a + 1) = 45)) (h5 : byteAt (bl S) a = 39) :
    Calls Tryz.prog 58 #[.pointer (some ⟨C, 0, none⟩)] w (CutP C S l w (tokAt (bl S) a)) := by
  have HX := Lib.hid (show tokAt (bl S) a = litTok a (litGo (bl S) S[a].toNat a ((bl S).length + 1) (a + 1) []) by rw [tokAt, h2, if_neg (by decide), if_neg (by decide), h3, if_neg (by decide), if_neg h4, if_pos (by omega), ← byteAt_ba ha]; rfl)
  have hlen := bl_length S
  have HC := Lib.hid h
  have HL := Lib.hid hg
  have hlt := h.lt
  obtain ⟨c0, c1⟩ := h.cells
  have a1 : a ≤ S.size := by omega
  have hT1 := kbl_extract S a a1
  have hT2 := kbl_size S a a1
  have hTb : ∀ h0 : 0 < (S.extract a S.size).size, (S.extract a S.size)[0].toNat = byteAt (bl S) a := by
    intro h0
    rw [← byteAt_ba h0, hT1]; simp [byteAt]
  have hTn : nameLen (bl (S.extract a S.size)) 0 = nameLen (bl S) a := by rw [hT1, nameLen_drop]
  generalize hT : S.extract a S.size = T at hT1 hT2 hTb hTn
  have HT := Lib.hid hT
  have h0 : 0 < T.size := by omega
  have hb := hTb h0
  have h256 := UInt8.toNat_lt T[0]
  have i0 : (0 : Int) < T.size := by omega
  have h140 : T.size ≤ 140737488355328 := by omega
  have N1 := Lib.hid hTn
  have T2 := Lib.hid hT2
  have hNT : nameLen (bl T) 0 ≤ T.size := by have := nameLen_in (bl T) 0 (by omega); rw [bl_length] at this; omega
  have hTS : T.size ≤ S.size := by omega
  have hTa : a + T.size = S.size := by omega
  have TA := Lib.hid hTa
  clear hTb hT hTn hT2 hTa
  have d1 : decide ((32 : Int) < (nameLen (bl T) 0 : Nat)) = false := by rw [N1.out]; simp; omega
  have d2 : decide ((0 : Int) < (nameLen (bl T) 0 : Nat)) = false := by rw [N1.out]; simp; omega
  have d3 : decide (0 < nameLen (bl T) 0) = false := by rw [N1.out]; simp; omega
  have hvb : byteAt (bl S) a < 256 := by omega
  have HI := Lib.hid (fun w' => idx_any ⟨#[47, 38, 33, 63, 42, 43, 40, 41, 46]⟩ (T[0].toNat : Int) (-1) w' (by simpa using sign_no T[0].toNat h256 (by rw [hb]; exact h3)))
  have HF := Lib.hid (fun w' => pre_any T ⟨#[60, 45]⟩ false w' (hp_is hT1 (by simp; omega)))
  have m39 : ((T[0].toNat : Int) == 39) = true := by rw [hb]; simp; omega
  have HQ := Lib.hid (show S[a].toNat = 39 ∨ S[a].toNat = 34 by rw [← byteAt_ba ha]; omega)
  have T1 := Lib.hid hT1
  clear h hg hT1 hb h2 h3 h4 h5 hvb
  generalize hN : nameLen (bl T) 0 = N at *
  have HN := Lib.hid hN
  clear hN
  go_enter Tryz.func58, Tryz.ntmps58
  repeat (first | go_values | go_skip | go_guarded | go_step | go_upon)
  go_region
  repeat (first | go_values | go_skip | go_guarded | go_step | go_upon)
  rw [HT.out]
  refine (lname_any T _ h140).mono ?_
  rintro e w1 ⟨rfl, hb1⟩
  rw [HN.out]
  have hw1 := bstep (drew_below w) hb1
  have u1 := HC.out.below hw1
  obtain ⟨e0, e1⟩ := u1.cells
  dsimp only
  repeat (first | go_values | go_skip | go_guarded | go_step | go_upon)
  refine (HI.out _).mono ?_
  rintro e w2 ⟨rfl, hb2⟩
  have hw2 := bstep hw1 hb2
  have u2 := u1.below hb2
  obtain ⟨f0, f1⟩ := u2.cells
  dsimp only
  repeat (first | go_values | go_skip | go_guarded | go_step | go_upon)
  refine (HF.out _).mono ?_
  rintro e w3 ⟨rfl, hb3⟩
  have hw3 := bstep hw2 hb3
  have u3 := u2.below hb3
  obtain ⟨g0, g1⟩ := u3.cells
  dsimp only
  repeat (first | go_values | go_skip | go_guarded | go_step | go_upon)
  refine (literal_any C S a l _ u3 hs ha hll HQ.out).mono ?_
  rintro e w4 hcp
  obtain ⟨v, rfl⟩ := hcp.form
  have HCP := Lib.hid hcp
  clear hcp
  dsimp only
  repeat (first | go_values | go_skip | go_guarded | go_step | go_upon)
  go_ret
  rw [HX.out]
  exact cut_lift HCP.out hw3 hlt
set_option maxRecDepth 100000 in
set_option maxHeartbeats 3200000 in
theorem tok_dq (C : Nat) (S : ByteArray) (a : Nat) (l : List Tok) (w : World) (hg : Laid w) (h : CU C S a l w) (hs : S.size ≤ 100000) (ha : a < S.size) (hll : l.length ≤ 100000) (h2 : nameLen (bl S) a = 0) (h3 : isSign (byteAt (bl S) a) = false) (h4 : ¬ (byteAt (bl S) a = 60 ∧ byteAt (bl S) (a + 1) = 45)) (h5 : byteAt (bl S) a = 34) :
    Calls Tryz.prog 58 #[.pointer (some ⟨C, 0, none⟩)] w (CutP C S l w (tokAt (bl S) a)) := by
  have HX := Lib.hid (show tokAt (bl S) a = litTok a (litGo (bl S) S[a].toNat a ((bl S).length + 1) (a + 1) []) by rw [tokAt, h2, if_neg (by decide), if_neg (by decide), h3, if_neg (by decide), if_neg h4, if_pos (by omega), ← byteAt_ba ha]; rfl)
  have hlen := bl_length S
  have HC := Lib.hid h
  have HL := Lib.hid hg
  have hlt := h.lt
  obtain ⟨c0, c1⟩ := h.cells
  have a1 : a ≤ S.size := by omega
  have hT1 := kbl_extract S a a1
  have hT2 := kbl_size S a a1
  have hTb : ∀ h0 : 0 < (S.extract a S.size).size, (S.extract a S.size)[0].toNat = byteAt (bl S) a := by
    intro h0
    rw [← byteAt_ba h0, hT1]; simp [byteAt]
  have hTn : nameLen (bl (S.extract a S.size)) 0 = nameLen (bl S) a := by rw [hT1, nameLen_drop]
  generalize hT : S.extract a S.size = T at hT1 hT2 hTb hTn
  have HT := Lib.hid hT
  have h0 : 0 < T.size := by omega
  have hb := hTb h0
  have h256 := UInt8.toNat_lt T[0]
  have i0 : (0 : Int) < T.size := by omega
  have h140 : T.size ≤ 140737488355328 := by omega
  have N1 := Lib.hid hTn
  have T2 := Lib.hid hT2
  have hNT : nameLen (bl T) 0 ≤ T.size := by have := nameLen_in (bl T) 0 (by omega); rw [bl_length] at this; omega
  have hTS : T.size ≤ S.size := by omega
  have hTa : a + T.size = S.size := by omega
  have TA := Lib.hid hTa
  clear hTb hT hTn hT2 hTa
  have d1 : decide ((32 : Int) < (nameLen (bl T) 0 : Nat)) = false := by rw [N1.out]; simp; omega
  have d2 : decide ((0 : Int) < (nameLen (bl T) 0 : Nat)) = false := by rw [N1.out]; simp; omega
  have d3 : decide (0 < nameLen (bl T) 0) = false := by rw [N1.out]; simp; omega
  have hvb : byteAt (bl S) a < 256 := by omega
  have HI := Lib.hid (fun w' => idx_any ⟨#[47, 38, 33, 63, 42, 43, 40, 41, 46]⟩ (T[0].toNat : Int) (-1) w' (by simpa using sign_no T[0].toNat h256 (by rw [hb]; exact h3)))
  have HF := Lib.hid (fun w' => pre_any T ⟨#[60, 45]⟩ false w' (hp_is hT1 (by simp; omega)))
  have m39 : ((T[0].toNat : Int) == 39) = false := by rw [hb]; simp; omega
  have m34 : ((T[0].toNat : Int) == 34) = true := by rw [hb]; simp; omega
  have HQ := Lib.hid (show S[a].toNat = 39 ∨ S[a].toNat = 34 by rw [← byteAt_ba ha]; omega)
  have T1 := Lib.hid hT1
  clear h hg hT1 hb h2 h3 h4 h5 hvb
  generalize hN : nameLen (bl T) 0 = N at *
  have HN := Lib.hid hN
  clear hN
  go_enter Tryz.func58, Tryz.ntmps58
  repeat (first | go_values | go_skip | go_guarded | go_step | go_upon)
  go_region
  repeat (first | go_values | go_skip | go_guarded | go_step | go_upon)
  rw [HT.out]
  refine (lname_any T _ h140).mono ?_
  rintro e w1 ⟨rfl, hb1⟩
  rw [HN.out]
  have hw1 := bstep (drew_below w) hb1
  have u1 := HC.out.below hw1
  obtain ⟨e0, e1⟩ := u1.cells
  dsimp only
  repeat (first | go_values | go_skip | go_guarded | go_step | go_upon)
  refine (HI.out _).mono ?_
  rintro e w2 ⟨rfl, hb2⟩
  have hw2 := bstep hw1 hb2
  have u2 := u1.below hb2
  obtain ⟨f0, f1⟩ := u2.cells
  dsimp only
  repeat (first | go_values | go_skip | go_guarded | go_step | go_upon)
  refine (HF.out _).mono ?_
  rintro e w3 ⟨rfl, hb3⟩
  have hw3 := bstep hw2 hb3
  have u3 := u2.below hb3
  obtain ⟨g0, g1⟩ := u3.cells
  dsimp only
  repeat (first | go_values | go_skip | go_guarded | go_step | go_upon)
  refine (literal_any C S a l _ u3 hs ha hll HQ.out).mono ?_
  rintro e w4 hcp
  obtain ⟨v, rfl⟩ := hcp.form
  have HCP := Lib.hid hcp
  clear hcp
  dsimp only
  repeat (first | go_values | go_skip | go_guarded | go_step | go_upon)
  go_ret
  rw [HX.out]
  exact cut_lift HCP.out hw3 hlt
set_option maxRecDepth 100000 in
set_option maxHeartbeats 3200000 in
theorem tok_class (C : Nat) (S : ByteArray) (a : Nat) (l : List Tok) (w : World) (hg : Laid w) (h : CU C S a l w) (hs : S.size ≤ 100000) (ha : a < S.size) (hll : l.length ≤ 100000) (h2 : nameLen (bl S) a = 0) (h3 : isSign (byteAt (bl S) a) = false) (h4 : ¬ (byteAt (bl S) a = 60 ∧ byteAt (bl S) (a + 1) = 45)) (h5 : byteAt (bl S) a = 91) :
    Calls Tryz.prog 58 #[.pointer (some ⟨C, 0, none⟩)] w (CutP C S l w (tokAt (bl S) a)) := by
  have HX := Lib.hid (show tokAt (bl S) a = clsTok a (parsed ((bl S).drop a)) by rw [tokAt, h2, if_neg (by decide), if_neg (by decide), h3, if_neg (by decide), if_neg h4, if_neg (by omega), if_pos h5]; rfl)
  have hlen := bl_length S
  have HC := Lib.hid h
  have HL := Lib.hid hg
  have hlt := h.lt
  obtain ⟨c0, c1⟩ := h.cells
  have a1 : a ≤ S.size := by omega
  have hT1 := kbl_extract S a a1
  have hT2 := kbl_size S a a1
  have hTb : ∀ h0 : 0 < (S.extract a S.size).size, (S.extract a S.size)[0].toNat = byteAt (bl S) a := by
    intro h0
    rw [← byteAt_ba h0, hT1]; simp [byteAt]
  have hTn : nameLen (bl (S.extract a S.size)) 0 = nameLen (bl S) a := by rw [hT1, nameLen_drop]
  generalize hT : S.extract a S.size = T at hT1 hT2 hTb hTn
  have HT := Lib.hid hT
  have h0 : 0 < T.size := by omega
  have hb := hTb h0
  have h256 := UInt8.toNat_lt T[0]
  have i0 : (0 : Int) < T.size := by omega
  have h140 : T.size ≤ 140737488355328 := by omega
  have N1 := Lib.hid hTn
  have T2 := Lib.hid hT2
  have hNT : nameLen (bl T) 0 ≤ T.size := by have := nameLen_in (bl T) 0 (by omega); rw [bl_length] at this; omega
  have hTS : T.size ≤ S.size := by omega
  have hTa : a + T.size = S.size := by omega
  have TA := Lib.hid hTa
  clear hTb hT hTn hT2 hTa
  have d1 : decide ((32 : Int) < (nameLen (bl T) 0 : Nat)) = false := by rw [N1.out]; simp; omega
  have d2 : decide ((0 : Int) < (nameLen (bl T) 0 : Nat)) = false := by rw [N1.out]; simp; omega
  have d3 : decide (0 < nameLen (bl T) 0) = false := by rw [N1.out]; simp; omega
  have hvb : byteAt (bl S) a < 256 := by omega
  have HI := Lib.hid (fun w' => idx_any ⟨#[47, 38, 33, 63, 42, 43, 40, 41, 46]⟩ (T[0].toNat : Int) (-1) w' (by simpa using sign_no T[0].toNat h256 (by rw [hb]; exact h3)))
  have HF := Lib.hid (fun w' => pre_any T ⟨#[60, 45]⟩ false w' (hp_is hT1 (by simp; omega)))
  have m39 : ((T[0].toNat : Int) == 39) = false := by rw [hb]; simp; omega
  have m34 : ((T[0].toNat : Int) == 34) = false := by rw [hb]; simp; omega
  have m91 : ((T[0].toNat : Int) == 91) = true := by rw [hb]; simp; omega
  have T1 := Lib.hid hT1
  clear h hg hT1 hb h2 h3 h4 h5 hvb
  generalize hN : nameLen (bl T) 0 = N at *
  have HN := Lib.hid hN
  clear hN
  go_enter Tryz.func58, Tryz.ntmps58
  repeat (first | go_values | go_skip | go_guarded | go_step | go_upon)
  go_region
  repeat (first | go_values | go_skip | go_guarded | go_step | go_upon)
  rw [HT.out]
  refine (lname_any T _ h140).mono ?_
  rintro e w1 ⟨rfl, hb1⟩
  rw [HN.out]
  have hw1 := bstep (drew_below w) hb1
  have u1 := HC.out.below hw1
  obtain ⟨e0, e1⟩ := u1.cells
  dsimp only
  repeat (first | go_values | go_skip | go_guarded | go_step | go_upon)
  refine (HI.out _).mono ?_
  rintro e w2 ⟨rfl, hb2⟩
  have hw2 := bstep hw1 hb2
  have u2 := u1.below hb2
  obtain ⟨f0, f1⟩ := u2.cells
  dsimp only
  repeat (first | go_values | go_skip | go_guarded | go_step | go_upon)
  refine (HF.out _).mono ?_
  rintro e w3 ⟨rfl, hb3⟩
  have hw3 := bstep hw2 hb3
  have u3 := u2.below hb3
  obtain ⟨g0, g1⟩ := u3.cells
  dsimp only
  repeat (first | go_values | go_skip | go_guarded | go_step | go_upon)
  refine (class_any C S a l _ (HL.out.below hw3 HL.out.pos) u3 hs ha hll).mono ?_
  rintro e w4 hcp
  obtain ⟨v, rfl⟩ := hcp.form
  have HCP := Lib.hid hcp
  clear hcp
  dsimp only
  repeat (first | go_values | go_skip | go_guarded | go_step | go_upon)
  go_ret
  rw [HX.out]
  exact cut_lift HCP.out hw3 hlt
set_option maxRecDepth 100000 in
set_option maxHeartbeats 3200000 in
theorem tok_none (C : Nat) (S : ByteArray) (a : Nat) (l : List Tok) (w : World) (hg : Laid w) (h : CU C S a l w) (hs : S.size ≤ 100000) (ha : a < S.size) (_ : l.length ≤ 100000) (h2 : nameLen (bl S) a = 0) (h3 : isSign (byteAt (bl S) a) = false) (h4 : ¬ (byteAt (bl S) a = 60 ∧ byteAt (bl S) (a + 1) = 45)) (h5 : byteAt (bl S) a ≠ 39) (h6 : byteAt (bl S) a ≠ 34) (h7 : byteAt (bl S) a ≠ 91) :
    Calls Tryz.prog 58 #[.pointer (some ⟨C, 0, none⟩)] w (CutP C S l w (tokAt (bl S) a)) := by
  have HX := Lib.hid (show tokAt (bl S) a = .inl (4, a) by rw [tokAt, h2, if_neg (by decide), if_neg (by decide), h3, if_neg (by decide), if_neg h4, if_neg (by omega), if_neg h7])
  have hlen := bl_length S
  have HC := Lib.hid h
  have HL := Lib.hid hg
  have hlt := h.lt
  obtain ⟨c0, c1⟩ := h.cells
  have a1 : a ≤ S.size := by omega
  have hT1 := kbl_extract S a a1
  have hT2 := kbl_size S a a1
  have hTb : ∀ h0 : 0 < (S.extract a S.size).size, (S.extract a S.size)[0].toNat = byteAt (bl S) a := by
    intro h0
    rw [← byteAt_ba h0, hT1]; simp [byteAt]
  have hTn : nameLen (bl (S.extract a S.size)) 0 = nameLen (bl S) a := by rw [hT1, nameLen_drop]
  generalize hT : S.extract a S.size = T at hT1 hT2 hTb hTn
  have HT := Lib.hid hT
  have h0 : 0 < T.size := by omega
  have hb := hTb h0
  have h256 := UInt8.toNat_lt T[0]
  have i0 : (0 : Int) < T.size := by omega
  have h140 : T.size ≤ 140737488355328 := by omega
  have N1 := Lib.hid hTn
  have T2 := Lib.hid hT2
  have hNT : nameLen (bl T) 0 ≤ T.size := by have := nameLen_in (bl T) 0 (by omega); rw [bl_length] at this; omega
  have hTS : T.size ≤ S.size := by omega
  have hTa : a + T.size = S.size := by omega
  have TA := Lib.hid hTa
  clear hTb hT hTn hT2 hTa
  have d1 : decide ((32 : Int) < (nameLen (bl T) 0 : Nat)) = false := by rw [N1.out]; simp; omega
  have d2 : decide ((0 : Int) < (nameLen (bl T) 0 : Nat)) = false := by rw [N1.out]; simp; omega
  have d3 : decide (0 < nameLen (bl T) 0) = false := by rw [N1.out]; simp; omega
  have hvb : byteAt (bl S) a < 256 := by omega
  have HI := Lib.hid (fun w' => idx_any ⟨#[47, 38, 33, 63, 42, 43, 40, 41, 46]⟩ (T[0].toNat : Int) (-1) w' (by simpa using sign_no T[0].toNat h256 (by rw [hb]; exact h3)))
  have HF := Lib.hid (fun w' => pre_any T ⟨#[60, 45]⟩ false w' (hp_is hT1 (by simp; omega)))
  have m39 : ((T[0].toNat : Int) == 39) = false := by rw [hb]; simp; omega
  have m34 : ((T[0].toNat : Int) == 34) = false := by rw [hb]; simp; omega
  have m91 : ((T[0].toNat : Int) == 91) = false := by rw [hb]; simp; omega
  have T1 := Lib.hid hT1
  clear h hg hT1 hb h2 h3 h4 h5 h6 h7 hvb
  generalize hN : nameLen (bl T) 0 = N at *
  have HN := Lib.hid hN
  clear hN
  go_enter Tryz.func58, Tryz.ntmps58
  repeat (first | go_values | go_skip | go_guarded | go_step | go_upon)
  go_region
  repeat (first | go_values | go_skip | go_guarded | go_step | go_upon)
  rw [HT.out]
  refine (lname_any T _ h140).mono ?_
  rintro e w1 ⟨rfl, hb1⟩
  rw [HN.out]
  have hw1 := bstep (drew_below w) hb1
  have u1 := HC.out.below hw1
  obtain ⟨e0, e1⟩ := u1.cells
  dsimp only
  repeat (first | go_values | go_skip | go_guarded | go_step | go_upon)
  refine (HI.out _).mono ?_
  rintro e w2 ⟨rfl, hb2⟩
  have hw2 := bstep hw1 hb2
  have u2 := u1.below hb2
  obtain ⟨f0, f1⟩ := u2.cells
  dsimp only
  repeat (first | go_values | go_skip | go_guarded | go_step | go_upon)
  refine (HF.out _).mono ?_
  rintro e w3 ⟨rfl, hb3⟩
  have hw3 := bstep hw2 hb3
  have u3 := u2.below hb3
  obtain ⟨g0, g1⟩ := u3.cells
  dsimp only
  repeat (first | go_values | go_skip | go_guarded | go_step | go_upon)
  refine (fault_any _ _ (4, a) _ rfl rfl).mono ?_
  rintro e w9 ⟨⟨p, rfl, hp, hl⟩, hb9⟩
  dsimp only [id]
  repeat (first | go_values | go_skip | go_guarded | go_step | go_upon)
  go_ret
  exact CutP.no HX.out rfl hp (Nat.le_trans hw3.size hl) ((hw3.mono (Nat.le_of_lt hlt)).trans (hb9.mono (by have := hw3.size; omega)))
theorem token_any (C : Nat) (S : ByteArray) (a : Nat) (l : List Tok) (w : World) (hg : Laid w) (h : CU C S a l w) (hs : S.size ≤ 100000) (ha : a < S.size) (hll : l.length ≤ 100000) :
    Calls Tryz.prog 58 #[.pointer (some ⟨C, 0, none⟩)] w (CutP C S l w (tokAt (bl S) a)) := by
  by_cases h1 : 32 < nameLen (bl S) a
  · exact tok_long C S a l w hg h hs ha hll h1
  by_cases h2 : 0 < nameLen (bl S) a
  · exact tok_name C S a l w hg h hs ha hll (by omega) h2
  have h2 : nameLen (bl S) a = 0 := by omega
  cases h3 : isSign (byteAt (bl S) a)
  · by_cases h4 : byteAt (bl S) a = 60 ∧ byteAt (bl S) (a + 1) = 45
    · exact tok_arrow C S a l w hg h hs ha hll h2 h3 h4
    by_cases h5 : byteAt (bl S) a = 39
    · exact tok_sq C S a l w hg h hs ha hll h2 h3 h4 h5
    by_cases h6 : byteAt (bl S) a = 34
    · exact tok_dq C S a l w hg h hs ha hll h2 h3 h4 h6
    by_cases h7 : byteAt (bl S) a = 91
    · exact tok_class C S a l w hg h hs ha hll h2 h3 h4 h7
    · exact tok_none C S a l w hg h hs ha hll h2 h3 h4 h5 h6 h7
  · exact tok_sign C S a l w hg h hs ha hll h2 h3
end Go.Proofs.YtjlcoldnhbkcgaaGreatDoor
