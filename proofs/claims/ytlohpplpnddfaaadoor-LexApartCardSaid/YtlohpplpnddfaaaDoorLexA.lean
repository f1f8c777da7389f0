/- The walks of lex.letter, lex.digit, lex.name, lex.Name. -/
import Derived.Test.YtlohpplpnddfaaaDoorLexP
import Derived.Test.YtlohpplpnddfaaaDoorRdW
namespace Go.Proofs.YtlohpplpnddfaaaDoor
open Go.RowKit Go.Sort

theorem or32 : ∀ b : Nat, b < 256 → bits .or .u8 (b : Int) 32 = ((b ||| 32 : Nat) : Int) := by decide +kernel
theorem let_yes : ∀ b : Nat, b < 256 → isLet b = true → (97 ≤ b ||| 32 ∧ b ||| 32 ≤ 122) ∨ (122 < b ||| 32 ∧ b = 95) := by decide +kernel
theorem let_no : ∀ b : Nat, b < 256 → isLet b = false → b ≠ 95 ∧ (b ||| 32 < 97 ∨ (97 ≤ b ||| 32 ∧ 122 < b ||| 32)) := by decide +kernel
set_option maxRecDepth 100000 in
set_option maxHeartbeats 800000 in
theorem letter_any (n : Nat) (r : Bool) (w : World) (hn : n < 256) (h : isLet n = r) : Calls Tryd.prog 90 #[.int .u8 (n : Int)] w (Ans (.bool r) w) := by
  have ho := or32 n hn
  cases r
  · obtain ⟨h1, h2⟩ := let_no n hn h
    have m1 : ((n : Int) == 95) = false := by simp; omega
    clear h
    rcases h2 with h2 | ⟨h2, h3⟩
    · generalize n ||| 32 = k at *
      have d1 : decide ((97 : Int) ≤ k) = false := by simp; omega
      go_enter Tryd.func90, Tryd.ntmps90
      repeat (first | go_values | go_skip | go_guarded | go_step | go_upon)
      go_ret
      exact ⟨rfl, (by repeat (first | exact Below.refl _ _ | assumption | refine bal ?_ _ | refine bdr ?_ | refine bdrn ?_ _ | (refine bset ?_ (by first | exact Nat.le_refl _ | (simp; done) | (simp; omega) | omega) _) | refine bstep ?_ (by assumption)))⟩
    · generalize n ||| 32 = k at *
      have d1 : decide ((97 : Int) ≤ k) = true := by simp; omega
      have d2 : decide ((k : Int) ≤ 122) = false := by simp; omega
      go_enter Tryd.func90, Tryd.ntmps90
      repeat (first | go_values | go_skip | go_guarded | go_step | go_upon)
      go_ret
      exact ⟨rfl, (by repeat (first | exact Below.refl _ _ | assumption | refine bal ?_ _ | refine bdr ?_ | refine bdrn ?_ _ | (refine bset ?_ (by first | exact Nat.le_refl _ | (simp; done) | (simp; omega) | omega) _) | refine bstep ?_ (by assumption)))⟩
  · rcases let_yes n hn h with ⟨h2, h3⟩ | ⟨h2, h3⟩
    · clear h
      generalize n ||| 32 = k at *
      have d1 : decide ((97 : Int) ≤ k) = true := by simp; omega
      have d2 : decide ((k : Int) ≤ 122) = true := by simp; omega
      go_enter Tryd.func90, Tryd.ntmps90
      repeat (first | go_values | go_skip | go_guarded | go_step | go_upon)
      go_ret
      exact ⟨rfl, (by repeat (first | exact Below.refl _ _ | assumption | refine bal ?_ _ | refine bdr ?_ | refine bdrn ?_ _ | (refine bset ?_ (by first | exact Nat.le_refl _ | (simp; done) | (simp; omega) | omega) _) | refine bstep ?_ (by assumption)))⟩
    · clear h
      generalize n ||| 32 = k at *
      have m1 : ((n : Int) == 95) = true := by simp; omega
      have d1 : decide ((97 : Int) ≤ k) = true := by simp; omega
      have d2 : decide ((k : Int) ≤ 122) = false := by simp; omega
      go_enter Tryd.func90, Tryd.ntmps90
      repeat (first | go_values | go_skip | go_guarded | go_step | go_upon)
      go_ret
      exact ⟨rfl, (by repeat (first | exact Below.refl _ _ | assumption | refine bal ?_ _ | refine bdr ?_ | refine bdrn ?_ _ | (refine bset ?_ (by first | exact Nat.le_refl _ | (simp; done) | (simp; omega) | omega) _) | refine bstep ?_ (by assumption)))⟩
set_option maxRecDepth 100000 in
set_option maxHeartbeats 800000 in
theorem digit_any (n : Nat) (r : Bool) (w : World) (hn : n < 256) (h : isDig n = r) : Calls Tryd.prog 91 #[.int .u8 (n : Int)] w (Ans (.bool r) w) := by
  have hk : (r = true ∧ 48 ≤ n ∧ n ≤ 57) ∨ (r = false ∧ n < 48) ∨ (r = false ∧ 48 ≤ n ∧ 57 < n) := by
    unfold isDig at h
    cases r <;> simp at h ⊢ <;> omega
  clear h
  rcases hk with ⟨rfl, h1, h2⟩ | ⟨rfl, h1⟩ | ⟨rfl, h1, h2⟩
  · have d1 : decide ((48 : Int) ≤ n) = true := by simp; omega
    have d2 : decide ((n : Int) ≤ 57) = true := by simp; omega
    go_enter Tryd.func91, Tryd.ntmps91
    repeat (first | go_values | go_skip | go_guarded | go_step | go_upon)
    go_ret
    exact ⟨rfl, (by repeat (first | exact Below.refl _ _ | assumption | refine bal ?_ _ | refine bdr ?_ | refine bdrn ?_ _ | (refine bset ?_ (by first | exact Nat.le_refl _ | (simp; done) | (simp; omega) | omega) _) | refine bstep ?_ (by assumption)))⟩
  · have d1 : decide ((48 : Int) ≤ n) = false := by simp; omega
    go_enter Tryd.func91, Tryd.ntmps91
    repeat (first | go_values | go_skip | go_guarded | go_step | go_upon)
    go_ret
    exact ⟨rfl, (by repeat (first | exact Below.refl _ _ | assumption | refine bal ?_ _ | refine bdr ?_ | refine bdrn ?_ _ | (refine bset ?_ (by first | exact Nat.le_refl _ | (simp; done) | (simp; omega) | omega) _) | refine bstep ?_ (by assumption)))⟩
  · have d1 : decide ((48 : Int) ≤ n) = true := by simp; omega
    have d2 : decide ((n : Int) ≤ 57) = false := by simp; omega
    go_enter Tryd.func91, Tryd.ntmps91
    repeat (first | go_values | go_skip | go_guarded | go_step | go_upon)
    go_ret
    exact ⟨rfl, (by repeat (first | exact Below.refl _ _ | assumption | refine bal ?_ _ | refine bdr ?_ | refine bdrn ?_ _ | (refine bset ?_ (by first | exact Nat.le_refl _ | (simp; done) | (simp; omega) | omega) _) | refine bstep ?_ (by assumption)))⟩
set_option maxRecDepth 100000 in
set_option maxHeartbeats 1600000 in
theorem lname_any (S : ByteArray) (w : World) (hs : S.size ≤ 140737488355328) : Calls Tryd.prog 66 #[.string S] w (Ans (.int .i64 (nameLen (bl S) 0 : Nat)) w) := by
  have hlen := bl_length S
  go_enter Tryd.func66, Tryd.ntmps66
  repeat (first | go_values | go_skip | go_guarded | go_step | go_upon)
  go_loopw [6] (fun t wr => ∃ k : Nat, t = .int .i64 (k : Int) ∧ k ≤ S.size ∧ Hid (∀ j, j < k → cont j (byteAt (bl S) (0 + j)) = true) ∧ Below w.heap.size w wr) (fun t _ => S.size - (intOf t).toNat)
  case atStart => exact ⟨0, rfl, by omega, Lib.hid (fun j h => by omega), Below.refl _ _⟩
  case round =>
    obtain ⟨k, rfl, hk, hall, hb⟩ := hrel
    rcases Nat.lt_or_ge k S.size with hlt | hge
    · have hv := byteAt_ba hlt
      have h256 := UInt8.toNat_lt S[k]
      have k1 : decide (k < S.size) = true := by simpa using hlt
      cases hL : isLet S[k].toNat
      · have HL := Lib.hid hL
        by_cases h0 : k = 0
        · have HN := Lib.hid (show nameLen (bl S) 0 = k from nameLen_is hall.out (by rw [Nat.zero_add, hv, cont, hL]; simp [h0]))
          have e0 : ((k : Int) == 0) = true := by simp; omega
          clear hv hL h0
          repeat (first | go_values | go_skip | go_guarded | go_step | go_upon)
          refine (letter_any _ false _ h256 HL.out).mono ?_
          rintro e w1 ⟨rfl, hb1⟩
          dsimp only
          repeat (first | go_values | go_skip | go_guarded | go_step | go_upon)
          go_ret
          exact ⟨ret_int (by rw [HN.out]), (by repeat (first | exact Below.refl _ _ | assumption | refine bal ?_ _ | refine bdr ?_ | refine bdrn ?_ _ | (refine bset ?_ (by first | exact Nat.le_refl _ | (simp; done) | (simp; omega) | omega) _) | refine bstep ?_ (by assumption)))⟩
        · have e0 : ((k : Int) == 0) = false := by simp; omega
          cases hD : isDig S[k].toNat
          · have HN := Lib.hid (show nameLen (bl S) 0 = k from nameLen_is hall.out (by rw [Nat.zero_add, hv, cont, hL, hD]; simp))
            have HD := Lib.hid hD
            clear hv hL h0 hD
            repeat (first | go_values | go_skip | go_guarded | go_step | go_upon)
            refine (letter_any _ false _ h256 HL.out).mono ?_
            rintro e w1 ⟨rfl, hb1⟩
            dsimp only
            repeat (first | go_values | go_skip | go_guarded | go_step | go_upon)
            refine (digit_any _ false _ h256 HD.out).mono ?_
            rintro e w2 ⟨rfl, hb2⟩
            dsimp only
            repeat (first | go_values | go_skip | go_guarded | go_step | go_upon)
            go_ret
            exact ⟨ret_int (by rw [HN.out]), (by repeat (first | exact Below.refl _ _ | assumption | refine bal ?_ _ | refine bdr ?_ | refine bdrn ?_ _ | (refine bset ?_ (by first | exact Nat.le_refl _ | (simp; done) | (simp; omega) | omega) _) | refine bstep ?_ (by assumption)))⟩
          · have HC := Lib.hid (show ∀ j, j < k + 1 → cont j (byteAt (bl S) (0 + j)) = true from fun j hj => by
              by_cases e : j = k
              · subst e; rw [Nat.zero_add, hv, cont, hL, hD]; simp; omega
              · exact hall.out j (by omega))
            have HD := Lib.hid hD
            clear hv hL h0 hD
            repeat (first | go_values | go_skip | go_guarded | go_step | go_upon)
            refine (letter_any _ false _ h256 HL.out).mono ?_
            rintro e w1 ⟨rfl, hb1⟩
            dsimp only
            repeat (first | go_values | go_skip | go_guarded | go_step | go_upon)
            refine (digit_any _ true _ h256 HD.out).mono ?_
            rintro e w2 ⟨rfl, hb2⟩
            dsimp only
            repeat (first | go_values | go_skip | go_guarded | go_step | go_upon)
            exact ⟨⟨k + 1, by go_num, by omega, HC, (by repeat (first | exact Below.refl _ _ | assumption | refine bal ?_ _ | refine bdr ?_ | refine bdrn ?_ _ | (refine bset ?_ (by first | exact Nat.le_refl _ | (simp; done) | (simp; omega) | omega) _) | refine bstep ?_ (by assumption)))⟩, by simp [intOf]; omega⟩
      · have HL := Lib.hid hL
        have HC := Lib.hid (show ∀ j, j < k + 1 → cont j (byteAt (bl S) (0 + j)) = true from fun j hj => by
          by_cases e : j = k
          · subst e; rw [Nat.zero_add, hv, cont, hL]; simp
          · exact hall.out j (by omega))
        clear hv hL
        repeat (first | go_values | go_skip | go_guarded | go_step | go_upon)
        refine (letter_any _ true _ h256 HL.out).mono ?_
        rintro e w1 ⟨rfl, hb1⟩
        dsimp only
        repeat (first | go_values | go_skip | go_guarded | go_step | go_upon)
        exact ⟨⟨k + 1, by go_num, by omega, HC, (by repeat (first | exact Below.refl _ _ | assumption | refine bal ?_ _ | refine bdr ?_ | refine bdrn ?_ _ | (refine bset ?_ (by first | exact Nat.le_refl _ | (simp; done) | (simp; omega) | omega) _) | refine bstep ?_ (by assumption)))⟩, by simp [intOf]; omega⟩
    · obtain rfl : k = S.size := by omega
      have HN := Lib.hid (show nameLen (bl S) 0 = S.size from nameLen_is hall.out (by rw [byteAt_bge (by omega)]; simp [cont, isLet, isDig]))
      repeat (first | go_values | go_skip | go_guarded | go_step | go_upon)
      go_ret
      exact ⟨ret_int (by rw [HN.out]), (by repeat (first | exact Below.refl _ _ | assumption | refine bal ?_ _ | refine bdr ?_ | refine bdrn ?_ _ | (refine bset ?_ (by first | exact Nat.le_refl _ | (simp; done) | (simp; omega) | omega) _) | refine bstep ?_ (by assumption)))⟩
theorem ne_empty {S : ByteArray} (h : S.size ≠ 0) : S.toList.isEmpty = false := by
  have hl := bl_length S
  have h2 : bl S ≠ [] := by intro e; rw [e] at hl; simp at hl; omega
  rw [Go.ByteArray.toList_eq]
  simpa [List.isEmpty_iff, bl] using h2
/-- Is that a name? -/
def isName (s : List UInt8) : Bool := s.length != 0 && decide (s.length ≤ 32) && nameLen s 0 == s.length
set_option maxRecDepth 100000 in
set_option maxHeartbeats 800000 in
theorem lName_any (S : ByteArray) (w : World) (hs : S.size ≤ 140737488355328) : Calls Tryd.prog 39 #[.string S] w (Ans (.bool (isName (bl S))) w) := by
  have hlen := bl_length S
  by_cases h0 : S.size = 0
  · have HN := Lib.hid (show isName (bl S) = false by rw [isName, hlen, h0]; rfl)
    obtain rfl : S = ⟨#[]⟩ := by
      apply ByteArray.ext
      exact Array.eq_empty_of_size_eq_zero h0
    clear h0 hlen
    go_enter Tryd.func39, Tryd.ntmps39
    repeat (first | go_values | go_skip | go_guarded | go_step | go_upon)
    go_ret
    exact ⟨ret_bool (by rw [HN.out]), (by repeat (first | exact Below.refl _ _ | assumption | refine bal ?_ _ | refine bdr ?_ | refine bdrn ?_ _ | (refine bset ?_ (by first | exact Nat.le_refl _ | (simp; done) | (simp; omega) | omega) _) | refine bstep ?_ (by assumption)))⟩
  · have he := ne_empty h0
    have he2 : (!S.toList.isEmpty) = true := by rw [he]; rfl
    by_cases h32 : S.size ≤ 32
    · have d1 : decide ((S.size : Int) ≤ 32) = true := by simp; omega
      have HN := Lib.hid (show isName (bl S) = (((nameLen (bl S) 0 : Nat) : Int) == S.size) by rw [isName, hlen, Bool.eq_iff_iff]; simp [h0, h32]; omega)
      clear h0
      go_enter Tryd.func39, Tryd.ntmps39
      repeat (first | go_values | go_skip | go_guarded | go_step | go_upon)
      refine (lname_any S _ hs).mono ?_
      rintro e w1 ⟨rfl, hb1⟩
      obtain ⟨hc1, hf1⟩ := bcell hb1
      have hz1 := hb1.size
      try simp at hz1
      dsimp only
      repeat (first | go_values | go_skip | go_guarded | go_step | go_upon)
      go_ret
      exact ⟨ret_bool (by rw [HN.out]), (by repeat (first | exact Below.refl _ _ | assumption | refine bal ?_ _ | refine bdr ?_ | refine bdrn ?_ _ | (refine bset ?_ (by first | exact Nat.le_refl _ | (simp; done) | (simp; omega) | omega) _) | refine bstep ?_ (by assumption)))⟩
    · have d1 : decide ((S.size : Int) ≤ 32) = false := by simp; omega
      have HN := Lib.hid (show isName (bl S) = false by rw [isName, hlen]; simp; omega)
      clear h0
      go_enter Tryd.func39, Tryd.ntmps39
      repeat (first | go_values | go_skip | go_guarded | go_step | go_upon)
      go_ret
      exact ⟨ret_bool (by rw [HN.out]), (by repeat (first | exact Below.refl _ _ | assumption | refine bal ?_ _ | refine bdr ?_ | refine bdrn ?_ _ | (refine bset ?_ (by first | exact Nat.le_refl _ | (simp; done) | (simp; omega) | omega) _) | refine bstep ?_ (by assumption)))⟩
end Go.Proofs.YtlohpplpnddfaaaDoor
