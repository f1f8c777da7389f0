/- The walk of lex.Tokens. -/
import Derived.Test.YtlohpplpnddfaaaDoorLexT
namespace Go.Proofs.YtlohpplpnddfaaaDoor
open Go.RowKit Go.Sort

/-- The tokens of a source, or what is wrong. -/
def ToksP (w : World) (g : (Nat × Nat) ⊕ List Tok) (e : Ending) (w' : World) : Prop :=
  match g with
  | .inr l => ∃ v, e = .returned (.tuple #[v, .nilIface]) ∧ w'.ownsRow w.heap.size 53 7 v l.length (tokCells l) ∧ Below w.heap.size w w'
  | .inl er => AnsFault er w (fun x => .tuple #[.slice none 0 0, x]) e w' ∧ Below w.heap.size w w'
theorem toks_end {s : List UInt8} {f a : Nat} {l : List Tok} (h : s.length ≤ a) : toksGo s (f + 1) a l = .inr (l ++ [⟨6, [], 0, s.length⟩]) := by rw [toksGo, if_pos h]
theorem toks_note {s : List UInt8} {f a : Nat} {l : List Tok} (h : a < s.length) (hb : byteAt s a = 35) : toksGo s (f + 1) a l = toksGo s f (noteEnd s a) l := by rw [toksGo, if_neg (by omega), if_pos hb]
theorem toks_blank {s : List UInt8} {f a : Nat} {l : List Tok} (h : a < s.length) (hb : byteAt s a ≠ 35) (hk : isBlank (byteAt s a) = true) : toksGo s (f + 1) a l = toksGo s f (a + 1) l := by rw [toksGo, if_neg (by omega), if_neg hb, if_pos hk]
theorem toks_bad {s : List UInt8} {f a : Nat} {l : List Tok} {er : Nat × Nat} (h : a < s.length) (hb : byteAt s a ≠ 35) (hk : isBlank (byteAt s a) = false) (ht : tokAt s a = .inl er) : toksGo s (f + 1) a l = .inl er := by
  rw [toksGo, if_neg (by omega), if_neg hb, hk, if_neg (by decide), ht]
theorem toks_on {s : List UInt8} {f a n : Nat} {l : List Tok} {t : Tok} (h : a < s.length) (hb : byteAt s a ≠ 35) (hk : isBlank (byteAt s a) = false) (ht : tokAt s a = .inr (t, n)) : toksGo s (f + 1) a l = toksGo s f n (l ++ [t]) := by
  rw [toksGo, if_neg (by omega), if_neg hb, hk, if_neg (by decide), ht]
theorem cu_new (S : ByteArray) (w : World) : CU w.heap.size S 0 [] (w.alloc (.cells #[.string S, .int .i64 0, .slice none 0 0] 109)) :=
  ⟨_, heap_alloc_new _ _, World.ownsRow_nil _ _ _ _⟩
theorem token_ok (C : Nat) (S : ByteArray) (a : Nat) (l : List Tok) (w : World) (hg : Laid w) (h : CU C S a l w) (hs : S.size ≤ 100000) (ha : a < S.size) (hll : l.length ≤ 100000) {t : Tok} {n : Nat} (ht : tokAt (bl S) a = .inr (t, n)) :
    Calls Tryd.prog 64 #[.pointer (some ⟨C, 0, none⟩)] w (fun e w' => e = .returned .nilIface ∧ CU C S n (l ++ [t]) w' ∧ Below C w w') := by
  have := token_any C S a l w hg h hs ha hll
  rw [ht] at this
  exact this
theorem token_no (C : Nat) (S : ByteArray) (a : Nat) (l : List Tok) (w : World) (hg : Laid w) (h : CU C S a l w) (hs : S.size ≤ 100000) (ha : a < S.size) (hll : l.length ≤ 100000) {er : Nat × Nat} (ht : tokAt (bl S) a = .inl er) :
    Calls Tryd.prog 64 #[.pointer (some ⟨C, 0, none⟩)] w (fun e w' => AnsFault er w id e w' ∧ Below C w w') := by
  have := token_any C S a l w hg h hs ha hll
  rw [ht] at this
  exact this
theorem CU.set1 {C : Nat} {S : ByteArray} {a n : Nat} {l : List Tok} {w : World} (h : CU C S a l w) : CU C S n l (w.setCell ⟨C, 1, none⟩ (.int .i64 (n : Int))) := by
  obtain ⟨v, h1, h2⟩ := h
  refine ⟨v, heap_setCell_same _ C 1 _ _ _ h1, h2.kept (gsetk w ⟨C, 1, none⟩ (.int .i64 (n : Int))) ?_⟩
  cases hb : v.ownBlock with
  | none => left; rfl
  | some g => right; have := (h2.lt g hb).1; simp; omega
theorem CU.cells2 {C : Nat} {S : ByteArray} {a : Nat} {l : List Tok} {w : World} (h : CU C S a l w) : ∀ j, w.frozen? ⟨C, j, none⟩ = false := by
  obtain ⟨v, h1, _⟩ := h
  exact (cells_at h1).2.1
set_option maxRecDepth 100000 in
set_option maxHeartbeats 6400000 in
theorem tokens_any (S : ByteArray) (w : World) (hg : Laid w) (hs : S.size ≤ 8192) : Calls Tryd.prog 37 #[.string S] w (ToksP w (toks (bl S))) := by
  have hlen := bl_length S
  have HL := Lib.hid hg
  have HC := Lib.hid (cu_new S w)
  have d1 : decide ((8192 : Int) < S.size) = false := by simp; omega
  have hs2 : S.size ≤ 100000 := by omega
  clear hg
  have HG := Lib.hid (show toksGo (bl S) (2 * (bl S).length + 2) 0 [] = toks (bl S) from rfl)
  generalize toks (bl S) = G at *
  go_enter Tryd.func37, Tryd.ntmps37
  repeat (first | go_values | go_skip | go_guarded | go_step | go_upon)
  go_loopw [5] (fun _ wr => ∃ (f a : Nat) (l : List Tok), CU w.heap.size S a l wr ∧ Below w.heap.size w wr ∧ Hid (toksGo (bl S) f a l = G) ∧ (bl S).length < f + a ∧ a ≤ S.size ∧ l.length ≤ a) (fun _ wr => S.size - (intOf ((wr.cell? ⟨w.heap.size, 1, none⟩).getD undef)).toNat)
  case atStart => exact ⟨_, 0, [], HC.out, (Below.refl _ _).alloc (Nat.le_refl _) _, HG, by omega, by omega, by simp⟩
  case round =>
    obtain ⟨f, a, l, u, hb, hG, hf, ha, hla⟩ := hrel
    obtain ⟨f, rfl⟩ : ∃ g, f = g + 1 := ⟨f - 1, by omega⟩
    obtain ⟨c0, c1⟩ := u.cells
    have fz := u.cells2
    have HU := Lib.hid u
    rcases Nat.lt_or_ge a S.size with hlt | hge
    · have k1 : decide (a < S.size) = true := by simpa using hlt
      have hv := byteAt_ba hlt
      have h256 := UInt8.toNat_lt S[a]
      by_cases h35 : S[a].toNat = 35
      · have HX := Lib.hid (show toksGo (bl S) f (noteEnd (bl S) a) l = G by rw [← hG.out, toks_note (by omega) (by rw [hv]; exact h35)])
        have hne := noteEnd_bd (s := bl S) (a := a) (by omega) (by rw [hv, h35]; decide)
        have m35 : ((S[a].toNat : Int) == 35) = true := by simp; omega
        have hkb := kbl_extract S a ha
        clear u hv h35
        rcases Int.lt_or_le (Lib.indexByte ((bl S).drop a) 10) 0 with hneg | hpos
        · have hi : Lib.indexByte ((bl S).drop a) 10 = -1 := by have := Lib.indexByte_ge ((bl S).drop a) 10; omega
          have hE : noteEnd (bl S) a = S.size := by rw [noteEnd, if_neg (by omega), hlen]
          have HI := Lib.hid (fun w' => idx_any (S.extract a S.size) 10 (-1) w' (by rw [← hi, ← hkb]; rfl))
          rw [hE] at HX hne
          clear hneg hi hE hkb
          repeat (first | go_values | go_skip | go_guarded | go_step | go_upon)
          refine (HI.out _).mono ?_
          rintro e w1 ⟨rfl, hb1⟩
          have u1 := HU.out.below hb1
          obtain ⟨e0, e1⟩ := u1.cells
          have fz1 := u1.cells2
          dsimp only
          repeat (first | go_values | go_skip | go_guarded | go_step | go_upon)
          have u2 := CU.set1 (n := S.size) u1
          refine ⟨⟨f, S.size, l, u2, (bstep hb hb1).setCell (p := ⟨w.heap.size, 1, none⟩) (Nat.le_refl _) _, HX, by omega, by omega, by omega⟩, ?_⟩
          rw [u2.cells.2, HU.out.cells.2]
          simp [intOf]
          omega
        · obtain ⟨j, hj⟩ := Int.eq_ofNat_of_zero_le hpos
          have hE : noteEnd (bl S) a = a + j := by rw [noteEnd, if_pos hpos, hj]; rfl
          have HI := Lib.hid (fun w' => idx_any (S.extract a S.size) 10 (j : Int) w' (by rw [← hj, ← hkb]; rfl))
          rw [hE] at HX hne
          clear hpos hj hE hkb
          repeat (first | go_values | go_skip | go_guarded | go_step | go_upon)
          refine (HI.out _).mono ?_
          rintro e w1 ⟨rfl, hb1⟩
          have u1 := HU.out.below hb1
          obtain ⟨e0, e1⟩ := u1.cells
          have fz1 := u1.cells2
          dsimp only
          repeat (first | go_values | go_skip | go_guarded | go_step | go_upon)
          have u2 := CU.set1 (n := a + j) u1
          refine ⟨⟨f, a + j, l, u2, (bstep hb hb1).setCell (p := ⟨w.heap.size, 1, none⟩) (Nat.le_refl _) _, HX, by omega, by omega, by omega⟩, ?_⟩
          rw [show ((a : Int) + (j : Int)) = ((a + j : Nat) : Int) by omega, u2.cells.2, HU.out.cells.2]
          simp [intOf]
          omega
      · have m35 : ((S[a].toNat : Int) == 35) = false := by simp; omega
        have h35' : byteAt (bl S) a ≠ 35 := by rw [hv]; exact h35
        cases hk : isBlank S[a].toNat
        · have hk' : isBlank (byteAt (bl S) a) = false := by rw [hv]; exact hk
          have hkk : S[a].toNat ≠ 9 ∧ S[a].toNat ≠ 10 ∧ S[a].toNat ≠ 13 ∧ S[a].toNat ≠ 32 := by
            unfold isBlank at hk; simp at hk; omega
          obtain ⟨q9, q10, q13, q32⟩ := hkk
          have m9 : ((S[a].toNat : Int) == 9) = false := by simp; omega
          have m10 : ((S[a].toNat : Int) == 10) = false := by simp; omega
          have m13 : ((S[a].toNat : Int) == 13) = false := by simp; omega
          have m32 : ((S[a].toNat : Int) == 32) = false := by simp; omega
          cases ht : tokAt (bl S) a with
          | inl er =>
            have HX := Lib.hid (show G = .inl er by rw [← hG.out, toks_bad (by omega) h35' hk' ht])
            have HT := Lib.hid ht
            clear u hv h35 h35' hk hk' q9 q10 q13 q32 ht
            repeat (first | go_values | go_skip | go_guarded | go_step | go_upon)
            refine (token_no w.heap.size S a l _ (HL.out.below hb HL.out.pos) HU.out hs2 hlt (by omega) HT.out).mono ?_
            rintro e w1 ⟨⟨p, rfl, hp, hl⟩, hb1⟩
            dsimp only [id]
            repeat (first | go_values | go_skip | go_guarded | go_step | go_upon)
            go_ret2
            rw [HX.out]
            exact ⟨⟨p, rfl, hp, Nat.le_trans hb.size hl⟩, hb.trans hb1⟩
          | inr q =>
            obtain ⟨t, n⟩ := q
            have bd := tokAt_bd (by omega) ht
            have HX := Lib.hid (show toksGo (bl S) f n (l ++ [t]) = G by rw [← hG.out, toks_on (by omega) h35' hk' ht])
            have HT := Lib.hid ht
            clear u hv h35 h35' hk hk' q9 q10 q13 q32 ht
            repeat (first | go_values | go_skip | go_guarded | go_step | go_upon)
            refine (token_ok w.heap.size S a l _ (HL.out.below hb HL.out.pos) HU.out hs2 hlt (by omega) HT.out).mono ?_
            rintro e w1 ⟨rfl, u1, hb1⟩
            dsimp only
            repeat (first | go_values | go_skip | go_guarded | go_step | go_upon)
            refine ⟨⟨f, n, l ++ [t], u1, hb.trans hb1, HX, by omega, by omega, by simp; omega⟩, ?_⟩
            rw [u1.cells.2, HU.out.cells.2]
            simp [intOf]
            omega
        · have hk' : isBlank (byteAt (bl S) a) = true := by rw [hv]; exact hk
          have HX := Lib.hid (show toksGo (bl S) f (a + 1) l = G by rw [← hG.out, toks_blank (by omega) h35' hk'])
          have hkk : S[a].toNat = 9 ∨ S[a].toNat = 10 ∨ S[a].toNat = 13 ∨ S[a].toNat = 32 := by
            unfold isBlank at hk; simp at hk; omega
          have hmm : (((S[a].toNat : Int) == 9) = true) ∨ (((S[a].toNat : Int) == 9) = false ∧ ((S[a].toNat : Int) == 10) = true) ∨ (((S[a].toNat : Int) == 9) = false ∧ ((S[a].toNat : Int) == 10) = false ∧ ((S[a].toNat : Int) == 13) = true) ∨ (((S[a].toNat : Int) == 9) = false ∧ ((S[a].toNat : Int) == 10) = false ∧ ((S[a].toNat : Int) == 13) = false ∧ ((S[a].toNat : Int) == 32) = true) := by
            simp only [beq_iff_eq, beq_eq_false_iff_ne]; omega
          clear u hv h35 h35' hk hk' hkk
          rcases hmm with m9 | ⟨m9, m10⟩ | ⟨m9, m10, m13⟩ | ⟨m9, m10, m13, m32⟩
          all_goals
            repeat (first | go_values | go_skip | go_guarded | go_step | go_upon)
            have u2 := CU.set1 (n := a + 1) HU.out
            refine ⟨⟨f, a + 1, l, u2, hb.setCell (p := ⟨w.heap.size, 1, none⟩) (Nat.le_refl _) _, HX, by omega, by omega, by omega⟩, ?_⟩
            rw [show ((a : Int) + 1) = ((a + 1 : Nat) : Int) by omega, u2.cells.2, HU.out.cells.2]
            simp [intOf]
            omega
    · obtain rfl : a = S.size := by omega
      have HX := Lib.hid (show G = .inr (l ++ [⟨6, [], 0, S.size⟩]) by rw [← hG.out, toks_end (by omega), hlen])
      clear u
      repeat (first | go_values | go_skip | go_guarded | go_step | go_upon)
      refine (add_as w.heap.size S S.size l 6 [] _ S.size _ HU.out (by omega) (by omega)).mono ?_
      rintro e w1 ⟨rfl, u1, hb1⟩
      obtain ⟨v, hv, hown⟩ := u1
      obtain ⟨cD, fD, zD⟩ := cells_at hv
      dsimp only
      repeat (first | go_values | go_skip | go_guarded | go_step | go_upon)
      go_ret2
      rw [HX.out]
      exact ⟨v, rfl, hown.mono (Nat.le_succ _), hb.trans hb1⟩
end Go.Proofs.YtlohpplpnddfaaaDoor
