/- The walk of lex.cutter's method class. | The walks of lex.letter, lex.digit, lex.name, lex.Name. -/
import Derived.Test.YtjlcoldnhbkcgaaGreatDoorG9
import Derived.Test.YtjlcoldnhbkcgaaGreatDoorG11
import Derived.Test.YtjlcoldnhbkcgaaGreatDoorG14
import Derived.Outline
import Derived.StillTailTactics
import Derived.Deep.RegionHeld3
import Derived.Test.YtjlcoldnhbkcgaaGreatDoorG1
import Derived.Test.YtjlcoldnhbkcgaaGreatDoorG4
namespace Go.Proofs.YtjlcoldnhbkcgaaGreatDoor
open Go.RowKit Go.Sort

set_option maxRecDepth 100000 in
set_option maxHeartbeats 800000 in
theorem as_nil (v : Value) (w : World) : Calls Tryz.prog 50 #[.nilIface, v] w (Ans (.bool false) w) := by
  go_enter Tryz.func50, Tryz.ntmps50
  repeat (first | go_values | go_skip | go_guarded | go_step | go_upon)
  go_ret
  exact ⟨rfl, (by repeat (first | exact Below.refl _ _ | assumption | refine bal ?_ _ | refine bdr ?_ | refine bdrn ?_ _ | (refine bset ?_ (by first | exact Nat.le_refl _ | (simp; done) | (simp; omega) | omega) _) | refine bstep ?_ (by assumption)))⟩
theorem as_new (p tb : Nat) (w : World) (hg : Laid w) (h : tb = w.heap.size) :
    Calls Tryz.prog 50 #[.iface 79 (.pointer (some ⟨p, 0, none⟩)), .iface 106 (.pointer (some ⟨tb, 0, none⟩))] (w.alloc (.cells #[.pointer none] 79)) fun ev w' => ev = .returned (.bool true) ∧ Below w.heap.size w w' ∧ w'.cell? ⟨tb, 0, none⟩ = some (.pointer (some ⟨p, 0, none⟩)) := by
  subst h
  refine (as_FF p w.heap.size (.pointer none) _ (hg.below ((Below.refl _ _).alloc (Nat.le_refl _) _) hg.pos) (by simp) (by simp)).mono ?_
  rintro e w' ⟨b, rfl, rfl, hgr, hc⟩
  exact ⟨rfl, below_gr (bal (Below.refl _ _) _) hgr (Nat.le_refl _), hc⟩
/-- What a class comes to. -/
def clsTok (a : Nat) (g : Got (BitVec 256)) : Got Tok := match g with
  | .inl (e, n) => .inl (e, a + n)
  | .inr (c, n) => .inr (⟨4, [], c, a⟩, a + n)
theorem kbl_extract (A : ByteArray) (a : Nat) (_ : a ≤ A.size) : bl (A.extract a A.size) = (bl A).drop a := by
  have e : bl (A.extract a A.size) = List.take (A.size - a) ((bl A).drop a) := by simp [bl, ByteArray.data_extract]
  rw [e]
  exact List.take_of_length_le (by rw [List.length_drop, bl_length]; exact Nat.le_refl _)
theorem kbl_size (A : ByteArray) (a : Nat) (h : a ≤ A.size) : (A.extract a A.size).size = A.size - a := by
  rw [← bl_length, kbl_extract A a h, List.length_drop, bl_length]
theorem add_ac (C : Nat) (S : ByteArray) (a : Nat) (l : List Tok) (c : BitVec 256) (e : Int) (n : Nat) (w : World) (h : CU C S a l w) (hx : e = n) (hl : l.length ≤ 100000) :
    Calls Tryz.prog 59 #[.pointer (some ⟨C, 0, none⟩), .agg #[.int .i64 4, .string ⟨#[]⟩, .int .u64 (wd c 0), .int .u64 (wd c 1), .int .u64 (wd c 2), .int .u64 (wd c 3), .int .i64 0], .int .i64 e] w fun e w' => e = .returned (.tuple #[]) ∧ CU C S n (l ++ [⟨4, [], c, a⟩]) w' ∧ Below C w w' :=
  add_any C S a l ⟨4, [], c, a⟩ 0 e n w h hx rfl hl
set_option maxRecDepth 100000 in
set_option maxHeartbeats 3200000 in
theorem class_any (C : Nat) (S : ByteArray) (a : Nat) (l : List Tok) (w : World) (hg : Laid w) (h : CU C S a l w) (hs : S.size ≤ 100000) (ha : a < S.size) (hll : l.length ≤ 100000) :
    Calls Tryz.prog 85 #[.pointer (some ⟨C, 0, none⟩)] w (CutP C S l w (clsTok a (parsed ((bl S).drop a)))) := by
  have hlen := bl_length S
  have HC := Lib.hid h
  have HL := Lib.hid hg
  have hlt := h.lt
  obtain ⟨c0, c1⟩ := h.cells
  have hsz := kbl_size S a (by omega)
  have HZ := Lib.hid (show (S.extract a S.size).size ≤ 140737488355328 by omega)
  clear h hg hsz
  have a1 : a ≤ S.size := by omega
  cases hp : parsed ((bl S).drop a) with
  | inr q =>
    obtain ⟨c, n⟩ := q
    have hpb := parsed_bd hp
    have hpl : n ≤ S.size - a := by simpa [hlen] using hpb.2
    have HP := Lib.hid (show parsed (bl (S.extract a S.size)) = .inr (c, n) by rw [kbl_extract S a a1]; exact hp)
    clear hp hpb
    have mk : ∀ w', Below w.heap.size w w' → (Below w.heap.size w w' ∧ w'.cell? ⟨C, 0, none⟩ = some (.string S) ∧ w'.cell? ⟨C, 1, none⟩ = some (.int .i64 (a : Int))) := fun w' h => ⟨h, (h.cell hlt).trans c0, (h.cell hlt).trans c1⟩
    go_enter Tryz.func85, Tryz.ntmps85
    repeat (first | go_values | go_skip | go_guarded | go_step | go_upon)
    go_region_held3 (fun w' => Below w.heap.size w w' ∧ w'.cell? ⟨C, 0, none⟩ = some (.string S) ∧ w'.cell? ⟨C, 1, none⟩ = some (.int .i64 (a : Int))) ((go_split_ands; refine mk _ ?_; exact (by repeat (first | exact Below.refl _ _ | assumption | refine bal ?_ _ | refine bdr ?_ | refine bdrn ?_ _ | (refine bset ?_ (by first | exact Nat.le_refl _ | (simp; done) | (simp; omega) | omega) _) | refine bstep ?_ (by assumption))))) ((go_at_call 116; refine (parse_ok _ _ HZ.out HP.out).mono ?_; rintro e w3 ⟨rfl, hb3⟩; obtain ⟨hc3, hf3⟩ := bcell hb3; have hz3 := hb3.size; simp at hz3; try have q3 : w.heap.size < w3.heap.size := by omega))
    all_goals
      rename_i hHeld
      have hW := hHeld.1
      clear hHeld
      have qC : C < w3.heap.size := by omega
      repeat (first | go_values | go_skip | go_guarded | go_step | go_upon)
      refine (as_nil _ _).mono ?_
      rintro e w5 ⟨rfl, hb5⟩
      obtain ⟨hc5, hf5⟩ := bcell hb5
      have hz5 := hb5.size
      try simp at hz5
      have q5_0 : w.heap.size < w5.heap.size := by omega
      have q5_1 : w3.heap.size < w5.heap.size := by omega
      have q5_2 : C < w5.heap.size := by omega
      dsimp only
      have hW5 := bstep (bal hW (.cells #[.pointer none] 79)) hb5
      have u5 := HC.out.below hW5
      obtain ⟨e0, e1⟩ := u5.cells
      repeat (first | go_values | go_skip | go_guarded | go_step | go_upon)
      go_still_tail 9, (by kernel_rfl)
      repeat (first | go_values | go_skip | go_guarded | go_step | go_upon)
      refine (add_ac C S a l c _ (a + n) _ (u5.below (drew_below _)) (by omega) hll).mono ?_
      rintro e w6 ⟨rfl, u6, hb6⟩
      dsimp only
      repeat (first | go_values | go_skip | go_guarded | go_step | go_upon)
      go_ret
      exact CutP.ok rfl rfl u6 (((hW5.drew).mono (Nat.le_of_lt hlt)).trans hb6)
  | inl er =>
    obtain ⟨ec, en⟩ := er
    have HP := Lib.hid (show parsed (bl (S.extract a S.size)) = .inl (ec, en) by rw [kbl_extract S a a1]; exact hp)
    have hen : en ≤ S.size := by have := parsed_le hp; rw [List.length_drop, hlen] at this; omega
    clear hp
    have mk : ∀ w', Below w.heap.size w w' → (Below w.heap.size w w' ∧ w'.cell? ⟨C, 0, none⟩ = some (.string S) ∧ w'.cell? ⟨C, 1, none⟩ = some (.int .i64 (a : Int))) := fun w' h => ⟨h, (h.cell hlt).trans c0, (h.cell hlt).trans c1⟩
    go_enter Tryz.func85, Tryz.ntmps85
    repeat (first | go_values | go_skip | go_guarded | go_step | go_upon)
    go_region_held3 (fun w' => Below w.heap.size w w' ∧ w'.cell? ⟨C, 0, none⟩ = some (.string S) ∧ w'.cell? ⟨C, 1, none⟩ = some (.int .i64 (a : Int))) ((go_split_ands; refine mk _ ?_; exact (by repeat (first | exact Below.refl _ _ | assumption | refine bal ?_ _ | refine bdr ?_ | refine bdrn ?_ _ | (refine bset ?_ (by first | exact Nat.le_refl _ | (simp; done) | (simp; omega) | omega) _) | refine bstep ?_ (by assumption))))) ((go_at_call 116; refine (parse_no _ _ HZ.out HP.out).mono ?_; rintro e w3 ⟨⟨p, rfl, hp, hl⟩, hb3⟩; dsimp only [cls0]; obtain ⟨hc3, hf3⟩ := bcell hb3; have hz3 := hb3.size; simp at hz3; try have q3 : w.heap.size < w3.heap.size := by omega))
    all_goals
      rename_i hHeld
      have hW := hHeld.1
      clear hHeld
      have qC : C < w3.heap.size := by omega
      have hp3 := (Array.getElem?_eq_some_iff.1 hp).1
      repeat (first | go_values | go_skip | go_guarded | go_step | go_upon)
      refine (as_new p _ _ (HL.out.below hW HL.out.pos) (by simp)).mono ?_
      rintro e w5 ⟨rfl, hb5, hcf⟩
      have hz5 := hb5.size
      simp at hz5
      have hW5 := bstep hW hb5
      have u5 := HC.out.below hW5
      obtain ⟨e0, e1⟩ := u5.cells
      have hp5 : FaultAt p (ec, en) w5 := by
        refine fault_below ?_ hb5
        have hl' := hl
        simp at hl'
        repeat (first | (with_reducible exact hp) | (with_reducible refine fault_alloc ?_ _) | (with_reducible refine fault_set ?_ (by simp; omega) _))
      obtain ⟨g0, g1⟩ : w5.cell? ⟨p, 0, none⟩ = some (.int .i64 (ec : Int)) ∧ w5.cell? ⟨p, 1, none⟩ = some (.int .i64 (en : Int)) := ⟨(cells_at hp5).1 0, (cells_at hp5).1 1⟩
      dsimp only
      repeat (first | go_values | go_skip | go_guarded | go_step | go_upon)
      go_still_tail 13, (by kernel_rfl)
      repeat (first | go_values | go_skip | go_guarded | go_step | go_upon)
      refine (fault_any _ _ (ec, a + en) _ rfl (by simp)).mono ?_
      rintro e w9 ⟨⟨p9, rfl, hp9, hl9⟩, hb9⟩
      dsimp only [id]
      repeat (first | go_values | go_skip | go_guarded | go_step | go_upon)
      go_ret
      refine CutP.no rfl rfl hp9 ?_ ((hW5.mono (Nat.le_of_lt hlt)).trans ((drew_below _).trans hb9 |>.mono ?_))
      · have := hW5.size; simp at hl9; omega
      · have := hW5.size; omega
end Go.Proofs.YtjlcoldnhbkcgaaGreatDoor
namespace Go.Proofs.YtjlcoldnhbkcgaaGreatDoor
open Go.RowKit Go.Sort

theorem or32 : ∀ b : Nat, b < 256 → bits .or .u8 (b : Int) 32 = ((b ||| 32 : Nat) : Int) := by decide +kernel
theorem let_yes : ∀ b : Nat, b < 256 → isLet b = true → (97 ≤ b ||| 32 ∧ b ||| 32 ≤ 122) ∨ (122 < b ||| 32 ∧ b = 95) := by decide +kernel
theorem let_no : ∀ b : Nat, b < 256 → isLet b = false → b ≠ 95 ∧ (b ||| 32 < 97 ∨ (97 ≤ b ||| 32 ∧ 122 < b ||| 32)) := by decide +kernel
set_option maxRecDepth 100000 in
set_option maxHeartbeats 800000 in
theorem letter_any (n : Nat) (r : Bool) (w : World) (hn : n < 256) (h : isLet n = r) : Calls Tryz.prog 110 #[.int .u8 (n : Int)] w (Ans (.bool r) w) := by
  have ho := or32 n hn
  cases r
  · obtain ⟨h1, h2⟩ := let_no n hn h
    have m1 : ((n : Int) == 95) = false := by simp; omega
    clear h
    rcases h2 with h2 | ⟨h2, h3⟩
    · generalize n ||| 32 = k at *
      have d1 : decide ((97 : Int) ≤ k) = false := by simp; omega
      go_enter Tryz.func110, Tryz.ntmps110
      repeat (first | go_values | go_skip | go_guarded | go_step | go_upon)
      go_ret
      exact ⟨rfl, (by repeat (first | exact Below.refl _ _ | assumption | refine bal ?_ _ | refine bdr ?_ | refine bdrn ?_ _ | (refine bset ?_ (by first | exact Nat.le_refl _ | (simp; done) | (simp; omega) | omega) _) | refine bstep ?_ (by assumption)))⟩
    · generalize n ||| 32 = k at *
      have d1 : decide ((97 : Int) ≤ k) = true := by simp; omega
      have d2 : decide ((k : Int) ≤ 122) = false := by simp; omega
      go_enter Tryz.func110, Tryz.ntmps110
      repeat (first | go_values | go_skip | go_guarded | go_step | go_upon)
      go_ret
      exact ⟨rfl, (by repeat (first | exact Below.refl _ _ | assumption | refine bal ?_ _ | refine bdr ?_ | refine bdrn ?_ _ | (refine bset ?_ (by first | exact Nat.le_refl _ | (simp; done) | (simp; omega) | omega) _) | refine bstep ?_ (by assumption)))⟩
  · rcases let_yes n hn h with ⟨h2, h3⟩ | ⟨h2, h3⟩
    · clear h
      generalize n ||| 32 = k at *
      have d1 : decide ((97 : Int) ≤ k) = true := by simp; omega
      have d2 : decide ((k : Int) ≤ 122) = true := by simp; omega
      go_enter Tryz.func110, Tryz.ntmps110
      repeat (first | go_values | go_skip | go_guarded | go_step | go_upon)
      go_ret
      exact ⟨rfl, (by repeat (first | exact Below.refl _ _ | assumption | refine bal ?_ _ | refine bdr ?_ | refine bdrn ?_ _ | (refine bset ?_ (by first | exact Nat.le_refl _ | (simp; done) | (simp; omega) | omega) _) | refine bstep ?_ (by assumption)))⟩
    · clear h
      generalize n ||| 32 = k at *
      have m1 : ((n : Int) == 95) = true := by simp; omega
      have d1 : decide ((97 : Int) ≤ k) = true := by simp; omega
      have d2 : decide ((k : Int) ≤ 122) = false := by simp; omega
      go_enter Tryz.func110, Tryz.ntmps110
      repeat (first | go_values | go_skip | go_guarded | go_step | go_upon)
      go_ret
      exact ⟨rfl, (by repeat (first | exact Below.refl _ _ | assumption | refine bal ?_ _ | refine bdr ?_ | refine bdrn ?_ _ | (refine bset ?_ (by first | exact Nat.le_refl _ | (simp; done) | (simp; omega) | omega) _) | refine bstep ?_ (by assumption)))⟩
set_option maxRecDepth 100000 in
set_option maxHeartbeats 800000 in
theorem digit_any (n : Nat) (r : Bool) (w : World) (hn : n < 256) (h : isDig n = r) : Calls Tryz.prog 111 #[.int .u8 (n : Int)] w (Ans (.bool r) w) := by
  have hk : (r = true ∧ 48 ≤ n ∧ n ≤ 57) ∨ (r = false ∧ n < 48) ∨ (r = false ∧ 48 ≤ n ∧ 57 < n) := by
    unfold isDig at h
    cases r <;> simp at h ⊢ <;> omega
  clear h
  rcases hk with ⟨rfl, h1, h2⟩ | ⟨rfl, h1⟩ | ⟨rfl, h1, h2⟩
  · have d1 : decide ((48 : Int) ≤ n) = true := by simp; omega
    have d2 : decide ((n : Int) ≤ 57) = true := by simp; omega
    go_enter Tryz.func111, Tryz.ntmps111
    repeat (first | go_values | go_skip | go_guarded | go_step | go_upon)
    go_ret
    exact ⟨rfl, (by repeat (first | exact Below.refl _ _ | assumption | refine bal ?_ _ | refine bdr ?_ | refine bdrn ?_ _ | (refine bset ?_ (by first | exact Nat.le_refl _ | (simp; done) | (simp; omega) | omega) _) | refine bstep ?_ (by assumption)))⟩
  · have d1 : decide ((48 : Int) ≤ n) = false := by simp; omega
    go_enter Tryz.func111, Tryz.ntmps111
    repeat (first | go_values | go_skip | go_guarded | go_step | go_upon)
    go_ret
    exact ⟨rfl, (by repeat (first | exact Below.refl _ _ | assumption | refine bal ?_ _ | refine bdr ?_ | refine bdrn ?_ _ | (refine bset ?_ (by first | exact Nat.le_refl _ | (simp; done) | (simp; omega) | omega) _) | refine bstep ?_ (by assumption)))⟩
  · have d1 : decide ((48 : Int) ≤ n) = true := by simp; omega
    have d2 : decide ((n : Int) ≤ 57) = false := by simp; omega
    go_enter Tryz.func111, Tryz.ntmps111
    repeat (first | go_values | go_skip | go_guarded | go_step | go_upon)
    go_ret
    exact ⟨rfl, (by repeat (first | exact Below.refl _ _ | assumption | refine bal ?_ _ | refine bdr ?_ | refine bdrn ?_ _ | (refine bset ?_ (by first | exact Nat.le_refl _ | (simp; done) | (simp; omega) | omega) _) | refine bstep ?_ (by assumption)))⟩
set_option maxRecDepth 100000 in
set_option maxHeartbeats 1600000 in
theorem lname_any (S : ByteArray) (w : World) (hs : S.size ≤ 140737488355328) : Calls Tryz.prog 81 #[.string S] w (Ans (.int .i64 (nameLen (bl S) 0 : Nat)) w) := by
  have hlen := bl_length S
  go_enter Tryz.func81, Tryz.ntmps81
  repeat (first | go_values | go_skip | go_guarded | go_step | go_upon)
  go_loopw [6] (fun t wr => ∃ k : Nat, t = .int .i64 (k : Int) ∧ k ≤ S.size ∧ Hid (∀ j, j < k → cont j (byteAt (bl S) (0 + j)) = true) ∧ Below w.heap.size w wr) (fun t _ => S.size - (intOf t).toNat)
  case atStart => exact ⟨0, rfl, by omega, Lib.hid (fun j h => by omega), Below.refl _ _⟩
  case round =>
    obtain ⟨k, rfl, hk, hall, hb⟩ := hrel
    rcases Nat.lt_or_ge k S.size with hlt | hge
    · have hv := byteAt_ba hlt
      have h256 := UInt8.toNat_lt S[k]
      have k1 : decide (k < S.size) = true := by simpa using hlt
      cases hL : isLet S[k].toNat
      · have HL := Lib.hid hL
        by_cases h0 : k = 0
        · have HN := Lib.hid (show nameLen (bl S) 0 = k from nameLen_is hall.out (by rw [Nat.zero_add, hv, cont, hL]; simp [h0]))
          have e0 : ((k : Int) == 0) = true := by simp; omega
          clear hv hL h0
          repeat (first | go_values | go_skip | go_guarded | go_step | go_upon)
          refine (letter_any _ false _ h256 HL.out).mono ?_
          rintro e w1 ⟨rfl, hb1⟩
          dsimp only
          repeat (first | go_values | go_skip | go_guarded | go_step | go_upon)
          go_ret
          exact ⟨ret_int (by rw [HN.out]), (by repeat (first | exact Below.refl _ _ | assumption | refine bal ?_ _ | refine bdr ?_ | refine bdrn ?_ _ | (refine bset ?_ (by first | exact Nat.le_refl _ | (simp; done) | (simp; omega) | omega) _) | refine bstep ?_ (by assumption)))⟩
        · have e0 : ((k : Int) == 0) = false := by simp; omega
          cases hD : isDig S[k].toNat
          · have HN := Lib.hid (show nameLen (bl S) 0 = k from nameLen_is hall.out (by rw [Nat.zero_add, hv, cont, hL, hD]; simp))
            have HD := Lib.hid hD
            clear hv hL h0 hD
            repeat (first | go_values | go_skip | go_guarded | go_step | go_upon)
            refine (letter_any _ false _ h256 HL.out).mono ?_
            rintro e w1 ⟨rfl, hb1⟩
            dsimp only
            repeat (first | go_values | go_skip | go_guarded | go_step | go_upon)
            refine (digit_any _ false _ h256 HD.out).mono ?_
            rintro e w2 ⟨rfl, hb2⟩
            dsimp only
            repeat (first | go_values | go_skip | go_guarded | go_step | go_upon)
            go_ret
            exact ⟨ret_int (by rw [HN.out]), (by repeat (first | exact Below.refl _ _ | assumption | refine bal ?_ _ | refine bdr ?_ | refine bdrn ?_ _ | (refine bset ?_ (by first | exact Nat.le_refl _ | (simp; done) | (simp; omega) | omega) _) | refine bstep ?_ (by assumption)))⟩
          · have HC := Lib.hid (show ∀ j, j < k + 1 → cont j (byteAt (bl S) (0 + j)) = true from fun j hj => by
              by_cases e : j = k
              · subst e; rw [Nat.zero_add, hv, cont, hL, hD]; simp; omega
              · exact hall.out j (by omega))
            have HD := Lib.hid hD
            clear hv hL h0 hD
            repeat (first | go_values | go_skip | go_guarded | go_step | go_upon)
            refine (letter_any _ false _ h256 HL.out).mono ?_
            rintro e w1 ⟨rfl, hb1⟩
            dsimp only
            repeat (first | go_values | go_skip | go_guarded | go_step | go_upon)
            refine (digit_any _ true _ h256 HD.out).mono ?_
            rintro e w2 ⟨rfl, hb2⟩
            dsimp only
            repeat (first | go_values | go_skip | go_guarded | go_step | go_upon)
            exact ⟨⟨k + 1, by go_num, by omega, HC, (by repeat (first | exact Below.refl _ _ | assumption | refine bal ?_ _ | refine bdr ?_ | refine bdrn ?_ _ | (refine bset ?_ (by first | exact Nat.le_refl _ | (simp; done) | (simp; omega) | omega) _) | refine bstep ?_ (by assumption)))⟩, by simp [intOf]; omega⟩
      · have HL := Lib.hid hL
        have HC := Lib.hid (show ∀ j, j < k + 1 → cont j (byteAt (bl S) (0 + j)) = true from fun j hj => by
          by_cases e : j = k
          · subst e; rw [Nat.zero_add, hv, cont, hL]; simp
          · exact hall.out j (by omega))
        clear hv hL
        repeat (first | go_values | go_skip | go_guarded | go_step | go_upon)
        refine (letter_any _ true _ h256 HL.out).mono ?_
        rintro e w1 ⟨rfl, hb1⟩
        dsimp only
        repeat (first | go_values | go_skip | go_guarded | go_step | go_upon)
        exact ⟨⟨k + 1, by go_num, by omega, HC, (by repeat (first | exact Below.refl _ _ | assumption | refine bal ?_ _ | refine bdr ?_ | refine bdrn ?_ _ | (refine bset ?_ (by first | exact Nat.le_refl _ | (simp; done) | (simp; omega) | omega) _) | refine bstep ?_ (by assumption)))⟩, by simp [intOf]; omega⟩
    · obtain rfl : k = S.size := by omega
      have HN := Lib.hid (show nameLen (bl S) 0 = S.size from nameLen_is hall.out (by rw [byteAt_bge (by omega)]; simp [cont, isLet, isDig]))
      repeat (first | go_values | go_skip | go_guarded | go_step | go_upon)
      go_ret
      exact ⟨ret_int (by rw [HN.out]), (by repeat (first | exact Below.refl _ _ | assumption | refine bal ?_ _ | refine bdr ?_ | refine bdrn ?_ _ | (refine bset ?_ (by first | exact Nat.le_refl _ | (simp; done) | (simp; omega) | omega) _) | refine bstep ?_ (by assumption)))⟩
theorem ne_empty {S : ByteArray} (h : S.size ≠ 0) : S.toList.isEmpty = false := by
  have hl := bl_length S
  have h2 : bl S ≠ [] := by intro e; rw [e] at hl; simp at hl; omega
  rw [Go.ByteArray.toList_eq]
  simpa [List.isEmpty_iff, bl] using h2
/-- Is that a name? -/
def isName (s : List UInt8) : Bool := s.length != 0 && decide (s.length ≤ 32) && nameLen s 0 == s.length
set_option maxRecDepth 100000 in
set_option maxHeartbeats 800000 in
theorem lName_any (S : ByteArray) (w : World) (hs : S.size ≤ 140737488355328) : Calls Tryz.prog 87 #[.string S] w (Ans (.bool (isName (bl S))) w) := by
  have hlen := bl_length S
  by_cases h0 : S.size = 0
  · have HN := Lib.hid (show isName (bl S) = false by rw [isName, hlen, h0]; rfl)
    obtain rfl : S = ⟨#[]⟩ := by
      apply ByteArray.ext
      exact Array.eq_empty_of_size_eq_zero h0
    clear h0 hlen
    go_enter Tryz.func87, Tryz.ntmps87
    repeat (first | go_values | go_skip | go_guarded | go_step | go_upon)
    go_ret
    exact ⟨ret_bool (by rw [HN.out]), (by repeat (first | exact Below.refl _ _ | assumption | refine bal ?_ _ | refine bdr ?_ | refine bdrn ?_ _ | (refine bset ?_ (by first | exact Nat.le_refl _ | (simp; done) | (simp; omega) | omega) _) | refine bstep ?_ (by assumption)))⟩
  · have he := ne_empty h0
    have he2 : (!S.toList.isEmpty) = true := by rw [he]; rfl
    by_cases h32 : S.size ≤ 32
    · have d1 : decide ((S.size : Int) ≤ 32) = true := by simp; omega
      have HN := Lib.hid (show isName (bl S) = (((nameLen (bl S) 0 : Nat) : Int) == S.size) by rw [isName, hlen, Bool.eq_iff_iff]; simp [h0, h32]; omega)
      clear h0
      go_enter Tryz.func87, Tryz.ntmps87
      repeat (first | go_values | go_skip | go_guarded | go_step | go_upon)
      refine (lname_any S _ hs).mono ?_
      rintro e w1 ⟨rfl, hb1⟩
      obtain ⟨hc1, hf1⟩ := bcell hb1
      have hz1 := hb1.size
      try simp at hz1
      dsimp only
      repeat (first | go_values | go_skip | go_guarded | go_step | go_upon)
      go_ret
      exact ⟨ret_bool (by rw [HN.out]), (by repeat (first | exact Below.refl _ _ | assumption | refine bal ?_ _ | refine bdr ?_ | refine bdrn ?_ _ | (refine bset ?_ (by first | exact Nat.le_refl _ | (simp; done) | (simp; omega) | omega) _) | refine bstep ?_ (by assumption)))⟩
    · have d1 : decide ((S.size : Int) ≤ 32) = false := by simp; omega
      have HN := Lib.hid (show isName (bl S) = false by rw [isName, hlen]; simp; omega)
      clear h0
      go_enter Tryz.func87, Tryz.ntmps87
      repeat (first | go_values | go_skip | go_guarded | go_step | go_upon)
      go_ret
      exact ⟨ret_bool (by rw [HN.out]), (by repeat (first | exact Below.refl _ _ | assumption | refine bal ?_ _ | refine bdr ?_ | refine bdrn ?_ _ | (refine bset ?_ (by first | exact Nat.le_refl _ | (simp; done) | (simp; omega) | omega) _) | refine bstep ?_ (by assumption)))⟩
end Go.Proofs.YtjlcoldnhbkcgaaGreatDoor
