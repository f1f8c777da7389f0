/- The walks of the document's letter, digit, letters and Name for tokens. -/
import Derived.Test.YtlohpplpnddfaaaDoorG23
namespace Go.Proofs.YtlohpplpnddfaaaDoor
open Go.RowKit Go.Sort

set_option maxRecDepth 100000 in
set_option maxHeartbeats 1600000 in
theorem rletter_any (n : Nat) (r : Bool) (w : World) (h : isLet n = r) : Calls Tryd.prog 94 #[.int .u8 (n : Int)] w (Ans (.bool r) w) := by
  have hk : (r = false ∧ n < 65) ∨ (r = true ∧ 65 ≤ n ∧ n ≤ 90) ∨ (r = false ∧ 90 < n ∧ n < 97 ∧ n ≠ 95) ∨ (r = true ∧ n = 95) ∨ (r = true ∧ 97 ≤ n ∧ n ≤ 122) ∨ (r = false ∧ 122 < n) := by
    unfold isLet at h
    cases r <;> simp at h ⊢ <;> omega
  clear h
  rcases hk with ⟨rfl, h1⟩ | ⟨rfl, h1, h2⟩ | ⟨rfl, h1, h2, h3⟩ | ⟨rfl, h1⟩ | ⟨rfl, h1, h2⟩ | ⟨rfl, h1⟩
  · have d1 : decide ((65 : Int) ≤ n) = false := by simp; omega
    have d3 : decide ((97 : Int) ≤ n) = false := by simp; omega
    have m1 : ((n : Int) == 95) = false := by simp; omega
    go_enter Tryd.func94, Tryd.ntmps94
    repeat (first | go_values | go_skip | go_guarded | go_step | go_upon)
    go_ret
    exact ⟨rfl, (by repeat (first | exact Below.refl _ _ | assumption | refine bal ?_ _ | refine bdr ?_ | refine bdrn ?_ _ | (refine bset ?_ (by first | exact Nat.le_refl _ | (simp; done) | (simp; omega) | omega) _) | refine bstep ?_ (by assumption)))⟩
  · have d1 : decide ((65 : Int) ≤ n) = true := by simp; omega
    have d2 : decide ((n : Int) ≤ 90) = true := by simp; omega
    go_enter Tryd.func94, Tryd.ntmps94
    repeat (first | go_values | go_skip | go_guarded | go_step | go_upon)
    go_ret
    exact ⟨rfl, (by repeat (first | exact Below.refl _ _ | assumption | refine bal ?_ _ | refine bdr ?_ | refine bdrn ?_ _ | (refine bset ?_ (by first | exact Nat.le_refl _ | (simp; done) | (simp; omega) | omega) _) | refine bstep ?_ (by assumption)))⟩
  · have d1 : decide ((65 : Int) ≤ n) = true := by simp; omega
    have d2 : decide ((n : Int) ≤ 90) = false := by simp; omega
    have d3 : decide ((97 : Int) ≤ n) = false := by simp; omega
    have m1 : ((n : Int) == 95) = false := by simp; omega
    go_enter Tryd.func94, Tryd.ntmps94
    repeat (first | go_values | go_skip | go_guarded | go_step | go_upon)
    go_ret
    exact ⟨rfl, (by repeat (first | exact Below.refl _ _ | assumption | refine bal ?_ _ | refine bdr ?_ | refine bdrn ?_ _ | (refine bset ?_ (by first | exact Nat.le_refl _ | (simp; done) | (simp; omega) | omega) _) | refine bstep ?_ (by assumption)))⟩
  · subst h1
    go_enter Tryd.func94, Tryd.ntmps94
    repeat (first | go_values | go_skip | go_guarded | go_step | go_upon)
    go_ret
    exact ⟨rfl, (by repeat (first | exact Below.refl _ _ | assumption | refine bal ?_ _ | refine bdr ?_ | refine bdrn ?_ _ | (refine bset ?_ (by first | exact Nat.le_refl _ | (simp; done) | (simp; omega) | omega) _) | refine bstep ?_ (by assumption)))⟩
  · have d1 : decide ((65 : Int) ≤ n) = true := by simp; omega
    have d2 : decide ((n : Int) ≤ 90) = false := by simp; omega
    have d3 : decide ((97 : Int) ≤ n) = true := by simp; omega
    have d4 : decide ((n : Int) ≤ 122) = true := by simp; omega
    go_enter Tryd.func94, Tryd.ntmps94
    repeat (first | go_values | go_skip | go_guarded | go_step | go_upon)
    go_ret
    exact ⟨rfl, (by repeat (first | exact Below.refl _ _ | assumption | refine bal ?_ _ | refine bdr ?_ | refine bdrn ?_ _ | (refine bset ?_ (by first | exact Nat.le_refl _ | (simp; done) | (simp; omega) | omega) _) | refine bstep ?_ (by assumption)))⟩
  · have d1 : decide ((65 : Int) ≤ n) = true := by simp; omega
    have d2 : decide ((n : Int) ≤ 90) = false := by simp; omega
    have d3 : decide ((97 : Int) ≤ n) = true := by simp; omega
    have d4 : decide ((n : Int) ≤ 122) = false := by simp; omega
    have m1 : ((n : Int) == 95) = false := by simp; omega
    go_enter Tryd.func94, Tryd.ntmps94
    repeat (first | go_values | go_skip | go_guarded | go_step | go_upon)
    go_ret
    exact ⟨rfl, (by repeat (first | exact Below.refl _ _ | assumption | refine bal ?_ _ | refine bdr ?_ | refine bdrn ?_ _ | (refine bset ?_ (by first | exact Nat.le_refl _ | (simp; done) | (simp; omega) | omega) _) | refine bstep ?_ (by assumption)))⟩
set_option maxRecDepth 100000 in
set_option maxHeartbeats 800000 in
theorem rdigit_any (n : Nat) (r : Bool) (w : World) (h : isDig n = r) : Calls Tryd.prog 95 #[.int .u8 (n : Int)] w (Ans (.bool r) w) := by
  have hk : (r = true ∧ 48 ≤ n ∧ n ≤ 57) ∨ (r = false ∧ n < 48) ∨ (r = false ∧ 48 ≤ n ∧ 57 < n) := by
    unfold isDig at h
    cases r <;> simp at h ⊢ <;> omega
  clear h
  rcases hk with ⟨rfl, h1, h2⟩ | ⟨rfl, h1⟩ | ⟨rfl, h1, h2⟩
  · have d1 : decide ((48 : Int) ≤ n) = true := by simp; omega
    have d2 : decide ((n : Int) ≤ 57) = true := by simp; omega
    go_enter Tryd.func95, Tryd.ntmps95
    repeat (first | go_values | go_skip | go_guarded | go_step | go_upon)
    go_ret
    exact ⟨rfl, (by repeat (first | exact Below.refl _ _ | assumption | refine bal ?_ _ | refine bdr ?_ | refine bdrn ?_ _ | (refine bset ?_ (by first | exact Nat.le_refl _ | (simp; done) | (simp; omega) | omega) _) | refine bstep ?_ (by assumption)))⟩
  · have d1 : decide ((48 : Int) ≤ n) = false := by simp; omega
    go_enter Tryd.func95, Tryd.ntmps95
    repeat (first | go_values | go_skip | go_guarded | go_step | go_upon)
    go_ret
    exact ⟨rfl, (by repeat (first | exact Below.refl _ _ | assumption | refine bal ?_ _ | refine bdr ?_ | refine bdrn ?_ _ | (refine bset ?_ (by first | exact Nat.le_refl _ | (simp; done) | (simp; omega) | omega) _) | refine bstep ?_ (by assumption)))⟩
  · have d1 : decide ((48 : Int) ≤ n) = true := by simp; omega
    have d2 : decide ((n : Int) ≤ 57) = false := by simp; omega
    go_enter Tryd.func95, Tryd.ntmps95
    repeat (first | go_values | go_skip | go_guarded | go_step | go_upon)
    go_ret
    exact ⟨rfl, (by repeat (first | exact Below.refl _ _ | assumption | refine bal ?_ _ | refine bdr ?_ | refine bdrn ?_ _ | (refine bset ?_ (by first | exact Nat.le_refl _ | (simp; done) | (simp; omega) | omega) _) | refine bstep ?_ (by assumption)))⟩
set_option maxRecDepth 100000 in
set_option maxHeartbeats 1600000 in
theorem letters_any (S : ByteArray) (a : Nat) (w : World) (hs : S.size ≤ 140737488355328) (ha : a ≤ S.size) : Calls Tryd.prog 69 #[.string S, .int .i64 (a : Int)] w (Ans (.int .i64 (nameLen (bl S) a : Nat)) w) := by
  have hlen := bl_length S
  go_enter Tryd.func69, Tryd.ntmps69
  repeat (first | go_values | go_skip | go_guarded | go_step | go_upon)
  go_loopw [5] (fun t wr => ∃ k : Nat, t = .int .i64 (k : Int) ∧ a + k ≤ S.size ∧ Hid (∀ j, j < k → cont j (byteAt (bl S) (a + j)) = true) ∧ Below w.heap.size w wr) (fun t _ => S.size - (intOf t).toNat)
  case atStart => exact ⟨0, rfl, by omega, Lib.hid (fun j h => by omega), Below.refl _ _⟩
  case round =>
    obtain ⟨k, rfl, hk, hall, hb⟩ := hrel
    have hi : ((a : Int) + (k : Int)).toNat = a + k := by omega
    rcases Nat.lt_or_ge (a + k) S.size with hlt | hge
    · have hv := byteAt_ba hlt
      have h256 := UInt8.toNat_lt S[a + k]
      have k0 : 0 ≤ (a : Int) + (k : Int) := by omega
      have k1 : decide ((a : Int) + (k : Int) < S.size) = true := by simp; omega
      have k2 : (a : Int) + (k : Int) < S.size := by omega
      cases hL : isLet S[a + k].toNat <;> cases hD : isDig S[a + k].toNat
      · have HL := Lib.hid hL
        have HD := Lib.hid hD
        have HN := Lib.hid (show nameLen (bl S) a = k from nameLen_is hall.out (by rw [hv, cont, hL, hD]; simp))
        clear hv hL hD
        repeat (first | go_values | go_skip | go_guarded | go_step | go_upon)
        refine (rletter_any _ false _ HL.out).mono ?_
        rintro e w1 ⟨rfl, hb1⟩
        dsimp only
        repeat (first | go_values | go_skip | go_guarded | go_step | go_upon)
        refine (rdigit_any _ false _ HD.out).mono ?_
        rintro e w2 ⟨rfl, hb2⟩
        dsimp only
        repeat (first | go_values | go_skip | go_guarded | go_step | go_upon)
        go_ret
        exact ⟨ret_int (by rw [HN.out]), (by repeat (first | exact Below.refl _ _ | assumption | refine bal ?_ _ | refine bdr ?_ | refine bdrn ?_ _ | (refine bset ?_ (by first | exact Nat.le_refl _ | (simp; done) | (simp; omega) | omega) _) | refine bstep ?_ (by assumption)))⟩
      · have HL := Lib.hid hL
        have HD := Lib.hid hD
        by_cases h0 : k = 0
        · have e0 : ((k : Int) == 0) = true := by simp; omega
          have HN := Lib.hid (show nameLen (bl S) a = k from nameLen_is hall.out (by rw [hv, cont, hL]; simp [h0]))
          clear hv hL hD h0
          repeat (first | go_values | go_skip | go_guarded | go_step | go_upon)
          refine (rletter_any _ false _ HL.out).mono ?_
          rintro e w1 ⟨rfl, hb1⟩
          dsimp only
          repeat (first | go_values | go_skip | go_guarded | go_step | go_upon)
          refine (rdigit_any _ true _ HD.out).mono ?_
          rintro e w2 ⟨rfl, hb2⟩
          dsimp only
          repeat (first | go_values | go_skip | go_guarded | go_step | go_upon)
          go_ret
          exact ⟨ret_int (by rw [HN.out]), (by repeat (first | exact Below.refl _ _ | assumption | refine bal ?_ _ | refine bdr ?_ | refine bdrn ?_ _ | (refine bset ?_ (by first | exact Nat.le_refl _ | (simp; done) | (simp; omega) | omega) _) | refine bstep ?_ (by assumption)))⟩
        · have e0 : ((k : Int) == 0) = false := by simp; omega
          have HC := Lib.hid (show ∀ j, j < k + 1 → cont j (byteAt (bl S) (a + j)) = true from fun j hj => by
            by_cases e : j = k
            · subst e; rw [hv, cont, hL, hD]; simp; omega
            · exact hall.out j (by omega))
          clear hv hL hD h0
          repeat (first | go_values | go_skip | go_guarded | go_step | go_upon)
          refine (rletter_any _ false _ HL.out).mono ?_
          rintro e w1 ⟨rfl, hb1⟩
          dsimp only
          repeat (first | go_values | go_skip | go_guarded | go_step | go_upon)
          refine (rdigit_any _ true _ HD.out).mono ?_
          rintro e w2 ⟨rfl, hb2⟩
          dsimp only
          repeat (first | go_values | go_skip | go_guarded | go_step | go_upon)
          exact ⟨⟨k + 1, by go_num, by omega, HC, (by repeat (first | exact Below.refl _ _ | assumption | refine bal ?_ _ | refine bdr ?_ | refine bdrn ?_ _ | (refine bset ?_ (by first | exact Nat.le_refl _ | (simp; done) | (simp; omega) | omega) _) | refine bstep ?_ (by assumption)))⟩, by simp [intOf]; omega⟩
      · have HL := Lib.hid hL
        have HD := Lib.hid hD
        have HC := Lib.hid (show ∀ j, j < k + 1 → cont j (byteAt (bl S) (a + j)) = true from fun j hj => by
          by_cases e : j = k
          · subst e; rw [hv, cont, hL]; simp
          · exact hall.out j (by omega))
        clear hv hL hD
        repeat (first | go_values | go_skip | go_guarded | go_step | go_upon)
        refine (rletter_any _ true _ HL.out).mono ?_
        rintro e w1 ⟨rfl, hb1⟩
        dsimp only
        repeat (first | go_values | go_skip | go_guarded | go_step | go_upon)
        refine (rdigit_any _ false _ HD.out).mono ?_
        rintro e w2 ⟨rfl, hb2⟩
        dsimp only
        repeat (first | go_values | go_skip | go_guarded | go_step | go_upon)
        exact ⟨⟨k + 1, by go_num, by omega, HC, (by repeat (first | exact Below.refl _ _ | assumption | refine bal ?_ _ | refine bdr ?_ | refine bdrn ?_ _ | (refine bset ?_ (by first | exact Nat.le_refl _ | (simp; done) | (simp; omega) | omega) _) | refine bstep ?_ (by assumption)))⟩, by simp [intOf]; omega⟩
      · have HL := Lib.hid hL
        have HD := Lib.hid hD
        have HC := Lib.hid (show ∀ j, j < k + 1 → cont j (byteAt (bl S) (a + j)) = true from fun j hj => by
          by_cases e : j = k
          · subst e; rw [hv, cont, hL]; simp
          · exact hall.out j (by omega))
        clear hv hL hD
        repeat (first | go_values | go_skip | go_guarded | go_step | go_upon)
        refine (rletter_any _ true _ HL.out).mono ?_
        rintro e w1 ⟨rfl, hb1⟩
        dsimp only
        repeat (first | go_values | go_skip | go_guarded | go_step | go_upon)
        refine (rdigit_any _ true _ HD.out).mono ?_
        rintro e w2 ⟨rfl, hb2⟩
        dsimp only
        repeat (first | go_values | go_skip | go_guarded | go_step | go_upon)
        exact ⟨⟨k + 1, by go_num, by omega, HC, (by repeat (first | exact Below.refl _ _ | assumption | refine bal ?_ _ | refine bdr ?_ | refine bdrn ?_ _ | (refine bset ?_ (by first | exact Nat.le_refl _ | (simp; done) | (simp; omega) | omega) _) | refine bstep ?_ (by assumption)))⟩, by simp [intOf]; omega⟩
    · have hkk : a + k = S.size := by omega
      have k1 : decide ((a : Int) + (k : Int) < S.size) = false := by simp; omega
      have HN := Lib.hid (show nameLen (bl S) a = k from nameLen_is hall.out (by rw [byteAt_bge (by omega)]; simp [cont, isLet, isDig]))
      clear hkk
      repeat (first | go_values | go_skip | go_guarded | go_step | go_upon)
      go_ret
      exact ⟨ret_int (by rw [HN.out]), (by repeat (first | exact Below.refl _ _ | assumption | refine bal ?_ _ | refine bdr ?_ | refine bdrn ?_ _ | (refine bset ?_ (by first | exact Nat.le_refl _ | (simp; done) | (simp; omega) | omega) _) | refine bstep ?_ (by assumption)))⟩
set_option maxRecDepth 100000 in
set_option maxHeartbeats 800000 in
theorem rName_any (S : ByteArray) (w : World) (hs : S.size ≤ 140737488351232) : Calls Tryd.prog 42 #[.string S] w (Ans (.bool (isName (bl S))) w) := by
  have hlen := bl_length S
  have hin := nameLen_in (bl S) 0 (by omega)
  by_cases h1 : nameLen (bl S) 0 = S.size
  · have m1 : (((nameLen (bl S) 0 : Nat) : Int) == S.size) = true := by simp; omega
    by_cases h0 : 1 ≤ S.size
    · have d1 : decide ((1 : Int) ≤ (nameLen (bl S) 0 : Nat)) = true := by simp; omega
      by_cases h2 : S.size ≤ 32
      · have HN := Lib.hid (show isName (bl S) = true from isName_of (by omega) (by omega) (by omega))
        have d2 : decide (((nameLen (bl S) 0 : Nat) : Int) ≤ 32) = true := by simp; omega
        have HH := Lib.hid (fun w => letters_any S 0 w (by omega) (by omega))
        clear h1
        generalize nameLen (bl S) 0 = N at *
        go_enter Tryd.func42, Tryd.ntmps42
        repeat (first | go_values | go_skip | go_guarded | go_step | go_upon)
        refine (HH.out _).mono ?_
        rintro e w1 ⟨rfl, hb1⟩
        obtain ⟨hc1, hf1⟩ := bcell hb1
        have hz1 := hb1.size
        try simp at hz1
        dsimp only
        repeat (first | go_values | go_skip | go_guarded | go_step | go_upon)
        go_ret
        exact ⟨ret_bool (by rw [HN.out]), (by repeat (first | exact Below.refl _ _ | assumption | refine bal ?_ _ | refine bdr ?_ | refine bdrn ?_ _ | (refine bset ?_ (by first | exact Nat.le_refl _ | (simp; done) | (simp; omega) | omega) _) | refine bstep ?_ (by assumption)))⟩
      · have HN := Lib.hid (show isName (bl S) = false by
          cases hh : isName (bl S)
          · rfl
          · have := isName_spec hh; omega)
        have d2 : decide (((nameLen (bl S) 0 : Nat) : Int) ≤ 32) = false := by simp; omega
        have HH := Lib.hid (fun w => letters_any S 0 w (by omega) (by omega))
        clear h1
        generalize nameLen (bl S) 0 = N at *
        go_enter Tryd.func42, Tryd.ntmps42
        repeat (first | go_values | go_skip | go_guarded | go_step | go_upon)
        refine (HH.out _).mono ?_
        rintro e w1 ⟨rfl, hb1⟩
        obtain ⟨hc1, hf1⟩ := bcell hb1
        have hz1 := hb1.size
        try simp at hz1
        dsimp only
        repeat (first | go_values | go_skip | go_guarded | go_step | go_upon)
        go_ret
        exact ⟨ret_bool (by rw [HN.out]), (by repeat (first | exact Below.refl _ _ | assumption | refine bal ?_ _ | refine bdr ?_ | refine bdrn ?_ _ | (refine bset ?_ (by first | exact Nat.le_refl _ | (simp; done) | (simp; omega) | omega) _) | refine bstep ?_ (by assumption)))⟩
    · have HN := Lib.hid (show isName (bl S) = false by
          cases hh : isName (bl S)
          · rfl
          · have := isName_spec hh; omega)
      have d1 : decide ((1 : Int) ≤ (nameLen (bl S) 0 : Nat)) = false := by simp; omega
      have HH := Lib.hid (fun w => letters_any S 0 w (by omega) (by omega))
      clear h1
      generalize nameLen (bl S) 0 = N at *
      go_enter Tryd.func42, Tryd.ntmps42
      repeat (first | go_values | go_skip | go_guarded | go_step | go_upon)
      refine (HH.out _).mono ?_
      rintro e w1 ⟨rfl, hb1⟩
      obtain ⟨hc1, hf1⟩ := bcell hb1
      have hz1 := hb1.size
      try simp at hz1
      dsimp only
      repeat (first | go_values | go_skip | go_guarded | go_step | go_upon)
      go_ret
      exact ⟨ret_bool (by rw [HN.out]), (by repeat (first | exact Below.refl _ _ | assumption | refine bal ?_ _ | refine bdr ?_ | refine bdrn ?_ _ | (refine bset ?_ (by first | exact Nat.le_refl _ | (simp; done) | (simp; omega) | omega) _) | refine bstep ?_ (by assumption)))⟩
  · have HN := Lib.hid (show isName (bl S) = false by
          cases hh : isName (bl S)
          · rfl
          · have := isName_spec hh; omega)
    have m1 : (((nameLen (bl S) 0 : Nat) : Int) == S.size) = false := by simp; omega
    have HH := Lib.hid (fun w => letters_any S 0 w (by omega) (by omega))
    clear h1
    generalize nameLen (bl S) 0 = N at *
    go_enter Tryd.func42, Tryd.ntmps42
    repeat (first | go_values | go_skip | go_guarded | go_step | go_upon)
    refine (HH.out _).mono ?_
    rintro e w1 ⟨rfl, hb1⟩
    obtain ⟨hc1, hf1⟩ := bcell hb1
    have hz1 := hb1.size
    try simp at hz1
    dsimp only
    repeat (first | go_values | go_skip | go_guarded | go_step | go_upon)
    go_ret
    exact ⟨ret_bool (by rw [HN.out]), (by repeat (first | exact Below.refl _ _ | assumption | refine bal ?_ _ | refine bdr ?_ | refine bdrn ?_ _ | (refine bset ?_ (by first | exact Nat.le_refl _ | (simp; done) | (simp; omega) | omega) _) | refine bstep ?_ (by assumption)))⟩
end Go.Proofs.YtlohpplpnddfaaaDoor
