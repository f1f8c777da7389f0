/- The walk of LexNotes. -/
import Derived.Test.YtlohpplpnddfaaaDoorJoinW
namespace Go.Proofs.YtlohpplpnddfaaaDoor
open Go.RowKit Go.Sort

theorem byte_ne10 {N : ByteArray} (h : ∀ j, j < N.size → byteAt (bl N) j ≠ 10) : ∀ b ∈ bl N, b ≠ 10 := by
  intro b hb e
  obtain ⟨i, hi, he⟩ := List.mem_iff_getElem.1 hb
  have hl := bl_length N
  have := h i (by omega)
  rw [byteAt_lt hi, he, e] at this
  exact this rfl
theorem set_last {w : World} {B g cap n z : Nat} {la : List Tok} {x : Int} (hx : x = (z : Int)) (h : w.ownsRow B 53 7 (.slice (some ⟨g, 0, none⟩) n cap) n ((tokCells (la ++ [⟨6, [], 0, 0⟩])).set (la.length * 7 + 6) (.int .i64 x))) :
    w.ownsRow B 53 7 (.slice (some ⟨g, 0, none⟩) n cap) n (tokCells (la ++ [⟨6, [], 0, z⟩])) := by
  subst hx
  have hl := tokCells_len la
  have e : (tokCells (la ++ [⟨6, [], 0, 0⟩])).set (la.length * 7 + 6) (.int .i64 (z : Int)) = tokCells (la ++ [⟨6, [], 0, z⟩]) := by
    rw [tokCells_append, tokCells_append, List.set_append_right _ _ (by omega), show la.length * 7 + 6 - (tokCells la).length = 6 by omega]
    rfl
  rw [← e]
  exact h
theorem cells_end (la : List Tok) (y z : Nat) (u : Value) : (tokCells (la ++ [⟨6, [], 0, y⟩])).set (la.length * 7 + 6) u = (tokCells (la ++ [⟨6, [], 0, z⟩])).set (la.length * 7 + 6) u := by
  have hl := tokCells_len la
  rw [tokCells_append, tokCells_append, List.set_append_right _ _ (by omega), List.set_append_right _ _ (by omega), show la.length * 7 + 6 - (tokCells la).length = 6 by omega]
  rfl
set_option maxRecDepth 100000 in
set_option maxHeartbeats 3200000 in
theorem notes_any (S N : ByteArray) (w : World) (hg : Laid w) (hs : S.size ≤ 140737488351232) (ht : N.size ≤ 140737488351232) : Calls Tryd.prog 8 #[.string S, .string N] w (Ans (.bool true) w) := by
  have hls := bl_length S
  have hln := bl_length N
  have HL := Lib.hid hg
  have HL1 := Lib.hid (fun (W : World) (h : Below w.heap.size w W) => HL.out.below h HL.out.pos)
  clear hg
  by_cases hS : 8192 < S.size
  · have d1 : decide ((8192 : Int) < S.size) = true := by simp; omega
    go_enter Tryd.func8, Tryd.ntmps8
    repeat (first | go_values | go_skip | go_guarded | go_step | go_upon)
    refine (small3_any _ HL.out).mono ?_
    rintro e w1 ⟨rfl, hb1⟩
    obtain ⟨hc1, hf1⟩ := bcell hb1
    have hz1 := hb1.size
    try simp at hz1
    dsimp only
    repeat (first | go_values | go_skip | go_guarded | go_step | go_upon)
    go_ret
    exact ⟨rfl, (by repeat (first | exact Below.refl _ _ | assumption | refine bal ?_ _ | refine bdr ?_ | refine bdrn ?_ _ | (refine bset ?_ (by first | exact Nat.le_refl _ | (simp; done) | (simp; omega) | omega) _) | refine bstep ?_ (by assumption)))⟩
  have d1 : decide ((8192 : Int) < S.size) = false := by simp; omega
  by_cases hT : 8192 < N.size
  · have d2 : decide ((8192 : Int) < N.size) = true := by simp; omega
    go_enter Tryd.func8, Tryd.ntmps8
    repeat (first | go_values | go_skip | go_guarded | go_step | go_upon)
    refine (small3_any _ HL.out).mono ?_
    rintro e w1 ⟨rfl, hb1⟩
    obtain ⟨hc1, hf1⟩ := bcell hb1
    have hz1 := hb1.size
    try simp at hz1
    dsimp only
    repeat (first | go_values | go_skip | go_guarded | go_step | go_upon)
    go_ret
    exact ⟨rfl, (by repeat (first | exact Below.refl _ _ | assumption | refine bal ?_ _ | refine bdr ?_ | refine bdrn ?_ _ | (refine bset ?_ (by first | exact Nat.le_refl _ | (simp; done) | (simp; omega) | omega) _) | refine bstep ?_ (by assumption)))⟩
  have d2 : decide ((8192 : Int) < N.size) = false := by simp; omega
  have hs2 : S.size ≤ 140737488355328 := by omega
  have hbz : bl (S ++ ⟨#[10, 35]⟩ ++ N) = bl S ++ 10 :: 35 :: bl N := by rw [bl_add, bl_add, show bl ⟨#[10, 35]⟩ = [10, 35] from rfl]; simp
  have hzl : (S ++ ⟨#[10, 35]⟩ ++ N).size = S.size + N.size + 2 := by rw [← bl_length, hbz]; simp; omega
  cases hA : lexed (bl S) with
  | inl ea =>
    have HA := Lib.hid hA
    clear hA
    go_enter Tryd.func8, Tryd.ntmps8
    repeat (first | go_values | go_skip | go_guarded | go_step | go_upon)
    refine (small3_any _ HL.out).mono ?_
    rintro e w1 ⟨rfl, hb1⟩
    obtain ⟨hc1, hf1⟩ := bcell hb1
    have hz1 := hb1.size
    try simp at hz1
    dsimp only
    repeat (first | go_values | go_skip | go_guarded | go_step | go_upon)
    refine (lexed_no S _ (HL1.out _ (by repeat (first | exact Below.refl _ _ | assumption | refine bal ?_ _ | refine bdr ?_ | refine bdrn ?_ _ | (refine bset ?_ (by first | exact Nat.le_refl _ | (simp; done) | (simp; omega) | omega) _) | refine bstep ?_ (by assumption)))) hs2 HA.out).mono ?_
    rintro e w2 ⟨⟨p, rfl, _, _⟩, hb2⟩
    dsimp only
    repeat (first | go_values | go_skip | go_guarded | go_step | go_upon)
    go_ret
    exact ⟨rfl, (by repeat (first | exact Below.refl _ _ | assumption | refine bal ?_ _ | refine bdr ?_ | refine bdrn ?_ _ | (refine bset ?_ (by first | exact Nat.le_refl _ | (simp; done) | (simp; omega) | omega) _) | refine bstep ?_ (by assumption)))⟩
  | inr la =>
    obtain ⟨la', rfl⟩ := lexed_ends hA
    have hA2 := lexed_inr hA
    have HA := Lib.hid hA
    have lA := lexed_len hA
    simp only [List.length_append, List.length_cons, List.length_nil] at lA
    clear hA
    have g1 : decide ((0 : Int) < (la'.length + 1 : Nat)) = true := by simp
    have g2 : (((la'.length + 1 : Nat) : Int) == 0) = false := by simp; omega
    have g3 : ((la'.length : Int) + 1 == 0) = false := by simp; omega
    by_cases h8 : S.size + N.size + 2 ≤ 8192
    · have d3 : decide ((8192 : Int) < (S.size : Int) + N.size + 2) = false := by simp; omega
      have hle : la'.length ≤ 8192 := by omega
      clear hA2
      go_enter Tryd.func8, Tryd.ntmps8
      repeat (first | go_values | go_skip | go_guarded | go_step | go_upon)
      refine (small3_any _ HL.out).mono ?_
      rintro e w1 ⟨rfl, hb1⟩
      obtain ⟨hc1, hf1⟩ := bcell hb1
      have hz1 := hb1.size
      try simp at hz1
      dsimp only
      repeat (first | go_values | go_skip | go_guarded | go_step | go_upon)
      refine (lexed_ok S _ (HL1.out _ (by repeat (first | exact Below.refl _ _ | assumption | refine bal ?_ _ | refine bdr ?_ | refine bdrn ?_ _ | (refine bset ?_ (by first | exact Nat.le_refl _ | (simp; done) | (simp; omega) | omega) _) | refine bstep ?_ (by assumption)))) HA.out).mono ?_
      rintro e w2 ⟨v, rfl, hownA, hb2⟩
      obtain ⟨ga, ca, hv, _⟩ := hownA.form (by simp)
      subst hv
      dsimp only [List.length_append, List.length]
      repeat (first | go_values | go_skip | go_guarded | go_step | go_upon)
      go_loopw [9] (fun t wr => ∃ k : Nat, t = .int .i64 (k : Int) ∧ k ≤ N.size ∧ Hid (∀ j, j < k → byteAt (bl N) j ≠ 10) ∧ Below w2.heap.size w2 wr) (fun t _ => N.size - (intOf t).toNat)
      case atStart => exact ⟨0, rfl, Nat.zero_le _, Lib.hid (fun j h => by omega), Below.refl _ _⟩
      case round =>
        obtain ⟨k, rfl, hk, hall, hb⟩ := hrel
        rcases Nat.lt_or_ge k N.size with hlt | hge
        · have hv := byteAt_ba hlt
          have h256 := UInt8.toNat_lt N[k]
          have k1 : decide (k < N.size) = true := by simpa using hlt
          by_cases h10 : N[k].toNat = 10
          · have m1 : ((N[k].toNat : Int) == 10) = true := by simp; omega
            clear hv h10
            repeat (first | go_values | go_skip | go_guarded | go_step | go_upon)
            go_ret
            exact ⟨rfl, (by repeat (first | exact Below.refl _ _ | assumption | refine bal ?_ _ | refine bdr ?_ | refine bdrn ?_ _ | (refine bset ?_ (by first | exact Nat.le_refl _ | (simp; done) | (simp; omega) | omega) _) | refine bstep ?_ (by assumption)))⟩
          · have m1 : ((N[k].toNat : Int) == 10) = false := by simp; omega
            have HC := Lib.hid (show ∀ j, j < k + 1 → byteAt (bl N) j ≠ 10 from fun j hj => by
              by_cases e : j = k
              · subst e; rw [hv]; exact h10
              · exact hall.out j (by omega))
            clear hv h10
            repeat (first | go_values | go_skip | go_guarded | go_step | go_upon)
            exact ⟨⟨k + 1, by go_num, by omega, HC, (by repeat (first | exact Below.refl _ _ | assumption | refine bal ?_ _ | refine bdr ?_ | refine bdrn ?_ _ | (refine bset ?_ (by first | exact Nat.le_refl _ | (simp; done) | (simp; omega) | omega) _) | refine bstep ?_ (by assumption)))⟩, by simp [intOf]; omega⟩
        · obtain rfl : k = N.size := by omega
          have hn := byte_ne10 hall.out
          obtain ⟨a', e1, e2⟩ := toks_notes (lexed_inr HA.out).2 hn
          obtain ⟨e3, _⟩ := List.append_inj' e1 rfl
          subst e3
          rw [← hbz] at e2
          have HT := Lib.hid (lexed_toks (by rw [bl_length]; omega) e2)
          have oA := owns_below hownA hb
          clear e1 e2 hn hownA
          repeat (first | go_values | go_skip | go_guarded | go_step | go_upon)
          refine (lexed_ok _ _ (HL1.out _ (by repeat (first | exact Below.refl _ _ | assumption | refine bal ?_ _ | refine bdr ?_ | refine bdrn ?_ _ | (refine bset ?_ (by first | exact Nat.le_refl _ | (simp; done) | (simp; omega) | omega) _) | refine bstep ?_ (by assumption)))) HT.out).mono ?_
          rintro e w4 ⟨v4, rfl, hownL, hb4⟩
          obtain ⟨gl, cl, hv, _⟩ := hownL.form (by simp)
          subst hv
          have oA4 := owns_below oA hb4
          have fz := oA4.frozenAt
          have lc := tokCells_len la'
          have c6 : w4.cell? ⟨ga, la'.length * 7 + 6, none⟩ = some (.int .i64 ((bl S).length : Int)) := by
            rw [oA4.cellAt _ (by simp; omega), tokCells_append, List.getElem?_append_right (by omega), show la'.length * 7 + 6 - (tokCells la').length = 6 by omega]
            rfl
          have k1 := @wrap_len
          have HO := Lib.hid oA4
          have HE := Lib.hid hownL
          have b4 : Below w.heap.size w w4 := (by repeat (first | exact Below.refl _ _ | assumption | refine bal ?_ _ | refine bdr ?_ | refine bdrn ?_ _ | (refine bset ?_ (by first | exact Nat.le_refl _ | (simp; done) | (simp; omega) | omega) _) | refine bstep ?_ (by assumption)))
          clear oA oA4 hownL
          dsimp only [List.length_append, List.length]
          repeat (first | go_values | go_skip | go_guarded | go_step | go_upon)
          have st := HO.out.stored (la'.length * 7 + 6) (.int .i64 ((S.size : Int) + (N.size : Int) + 2))
          have o1 := st.1
          rw [cells_end la' _ 0] at o1
          have o2 := set_last (z := S.size + N.size + 2) (by omega) o1
          have hgl : ga ≠ gl := by have := hb.size; omega
          have o3 := HE.out.kept st.2 (by simp [Value.ownBlock]; omega)
          rw [bl_length (S ++ ⟨#[10, 35]⟩ ++ N), hzl, List.length_append] at o3
          rw [List.length_append] at o2
          have hg1 : w.heap.size ≤ ga := by omega
          refine (tsame_any (la' ++ [⟨6, [], 0, S.size + N.size + 2⟩]) (la'.length + 1) _ _ _ _ _ (by omega) (by simp) o2 o3).mono ?_
          rintro e w7 ⟨rfl, hb7⟩
          dsimp only
          repeat (first | go_values | go_skip | go_guarded | go_step | go_upon)
          go_ret
          exact ⟨rfl, bstep (b4.setCell (p := ⟨ga, la'.length * 7 + 6, none⟩) hg1 _) hb7⟩
    · have d3 : decide ((8192 : Int) < (S.size : Int) + N.size + 2) = true := by simp; omega
      go_enter Tryd.func8, Tryd.ntmps8
      repeat (first | go_values | go_skip | go_guarded | go_step | go_upon)
      refine (small3_any _ HL.out).mono ?_
      rintro e w1 ⟨rfl, hb1⟩
      obtain ⟨hc1, hf1⟩ := bcell hb1
      have hz1 := hb1.size
      try simp at hz1
      dsimp only
      repeat (first | go_values | go_skip | go_guarded | go_step | go_upon)
      refine (lexed_ok S _ (HL1.out _ (by repeat (first | exact Below.refl _ _ | assumption | refine bal ?_ _ | refine bdr ?_ | refine bdrn ?_ _ | (refine bset ?_ (by first | exact Nat.le_refl _ | (simp; done) | (simp; omega) | omega) _) | refine bstep ?_ (by assumption)))) HA.out).mono ?_
      rintro e w2 ⟨v, rfl, hown, hb2⟩
      obtain ⟨g, cap, hv, _⟩ := hown.form (by simp)
      subst hv
      clear hown
      dsimp only [List.length_append, List.length]
      repeat (first | go_values | go_skip | go_guarded | go_step | go_upon)
      go_ret
      exact ⟨rfl, (by repeat (first | exact Below.refl _ _ | assumption | refine bal ?_ _ | refine bdr ?_ | refine bdrn ?_ _ | (refine bset ?_ (by first | exact Nat.le_refl _ | (simp; done) | (simp; omega) | omega) _) | refine bstep ?_ (by assumption)))⟩
end Go.Proofs.YtlohpplpnddfaaaDoor
