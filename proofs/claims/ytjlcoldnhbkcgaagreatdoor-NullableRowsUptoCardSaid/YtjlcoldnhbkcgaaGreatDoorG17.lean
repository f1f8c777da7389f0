/- The walk of lex.Tokens. | Tokens with blanks between each two are the same ones: plain. | A name is one token: plain. | Bytes as a literal: plain facts. -/
import Derived.Test.YtjlcoldnhbkcgaaGreatDoorG16
import Derived.Test.YtjlcoldnhbkcgaaGreatDoorG2
import Derived.Test.YtjlcoldnhbkcgaaGreatDoorG0
namespace Go.Proofs.YtjlcoldnhbkcgaaGreatDoor
open Go.RowKit Go.Sort

/-- The tokens of a source, or what is wrong. -/
def ToksP (w : World) (g : (Nat × Nat) ⊕ List Tok) (e : Ending) (w' : World) : Prop :=
  match g with
  | .inr l => ∃ v, e = .returned (.tuple #[v, .nilIface]) ∧ w'.ownsRow w.heap.size 96 7 v l.length (tokCells l) ∧ Below w.heap.size w w'
  | .inl er => AnsFault er w (fun x => .tuple #[.slice none 0 0, x]) e w' ∧ Below w.heap.size w w'
theorem toks_end {s : List UInt8} {f a : Nat} {l : List Tok} (h : s.length ≤ a) : toksGo s (f + 1) a l = .inr (l ++ [⟨6, [], 0, s.length⟩]) := by rw [toksGo, if_pos h]
theorem toks_note {s : List UInt8} {f a : Nat} {l : List Tok} (h : a < s.length) (hb : byteAt s a = 35) : toksGo s (f + 1) a l = toksGo s f (noteEnd s a) l := by rw [toksGo, if_neg (by omega), if_pos hb]
theorem toks_blank {s : List UInt8} {f a : Nat} {l : List Tok} (h : a < s.length) (hb : byteAt s a ≠ 35) (hk : isBlank (byteAt s a) = true) : toksGo s (f + 1) a l = toksGo s f (a + 1) l := by rw [toksGo, if_neg (by omega), if_neg hb, if_pos hk]
theorem toks_bad {s : List UInt8} {f a : Nat} {l : List Tok} {er : Nat × Nat} (h : a < s.length) (hb : byteAt s a ≠ 35) (hk : isBlank (byteAt s a) = false) (ht : tokAt s a = .inl er) : toksGo s (f + 1) a l = .inl er := by
  rw [toksGo, if_neg (by omega), if_neg hb, hk, if_neg (by decide), ht]
theorem toks_on {s : List UInt8} {f a n : Nat} {l : List Tok} {t : Tok} (h : a < s.length) (hb : byteAt s a ≠ 35) (hk : isBlank (byteAt s a) = false) (ht : tokAt s a = .inr (t, n)) : toksGo s (f + 1) a l = toksGo s f n (l ++ [t]) := by
  rw [toksGo, if_neg (by omega), if_neg hb, hk, if_neg (by decide), ht]
theorem cu_new (S : ByteArray) (w : World) : CU w.heap.size S 0 [] (w.alloc (.cells #[.string S, .int .i64 0, .slice none 0 0] 113)) :=
  ⟨_, heap_alloc_new _ _, World.ownsRow_nil _ _ _ _⟩
theorem token_ok (C : Nat) (S : ByteArray) (a : Nat) (l : List Tok) (w : World) (hg : Laid w) (h : CU C S a l w) (hs : S.size ≤ 100000) (ha : a < S.size) (hll : l.length ≤ 100000) {t : Tok} {n : Nat} (ht : tokAt (bl S) a = .inr (t, n)) :
    Calls Tryz.prog 58 #[.pointer (some ⟨C, 0, none⟩)] w (fun e w' => e = .returned .nilIface ∧ CU C S n (l ++ [t]) w' ∧ Below C w w') := by
  have := token_any C S a l w hg h hs ha hll
  rw [ht] at this
  exact this
theorem token_no (C : Nat) (S : ByteArray) (a : Nat) (l : List Tok) (w : World) (hg : Laid w) (h : CU C S a l w) (hs : S.size ≤ 100000) (ha : a < S.size) (hll : l.length ≤ 100000) {er : Nat × Nat} (ht : tokAt (bl S) a = .inl er) :
    Calls Tryz.prog 58 #[.pointer (some ⟨C, 0, none⟩)] w (fun e w' => AnsFault er w id e w' ∧ Below C w w') := by
  have := token_any C S a l w hg h hs ha hll
  rw [ht] at this
  exact this
theorem CU.set1 {C : Nat} {S : ByteArray} {a n : Nat} {l : List Tok} {w : World} (h : CU C S a l w) : CU C S n l (w.setCell ⟨C, 1, none⟩ (.int .i64 (n : Int))) := by
  obtain ⟨v, h1, h2⟩ := h
  refine ⟨v, heap_setCell_same _ C 1 _ _ _ h1, h2.kept (gsetk w ⟨C, 1, none⟩ (.int .i64 (n : Int))) ?_⟩
  cases hb : v.ownBlock with
  | none => left; rfl
  | some g => right; have := (h2.lt g hb).1; simp; omega
theorem CU.cells2 {C : Nat} {S : ByteArray} {a : Nat} {l : List Tok} {w : World} (h : CU C S a l w) : ∀ j, w.frozen? ⟨C, j, none⟩ = false := by
  obtain ⟨v, h1, _⟩ := h
  exact (cells_at h1).2.1
set_option maxRecDepth 100000 in
set_option maxHeartbeats 6400000 in
theorem tokens_any (S : ByteArray) (w : World) (hg : Laid w) (hs : S.size ≤ 8192) : Calls Tryz.prog 41 #[.string S] w (ToksP w (toks (bl S))) := by
  have hlen := bl_length S
  have HL := Lib.hid hg
  have HC := Lib.hid (cu_new S w)
  have d1 : decide ((8192 : Int) < S.size) = false := by simp; omega
  have hs2 : S.size ≤ 100000 := by omega
  clear hg
  have HG := Lib.hid (show toksGo (bl S) (2 * (bl S).length + 2) 0 [] = toks (bl S) from rfl)
  generalize toks (bl S) = G at *
  go_enter Tryz.func41, Tryz.ntmps41
  repeat (first | go_values | go_skip | go_guarded | go_step | go_upon)
  go_loopw [5] (fun _ wr => ∃ (f a : Nat) (l : List Tok), CU w.heap.size S a l wr ∧ Below w.heap.size w wr ∧ Hid (toksGo (bl S) f a l = G) ∧ (bl S).length < f + a ∧ a ≤ S.size ∧ l.length ≤ a) (fun _ wr => S.size - (intOf ((wr.cell? ⟨w.heap.size, 1, none⟩).getD undef)).toNat)
  case atStart => exact ⟨_, 0, [], HC.out, (Below.refl _ _).alloc (Nat.le_refl _) _, HG, by omega, by omega, by simp⟩
  case round =>
    obtain ⟨f, a, l, u, hb, hG, hf, ha, hla⟩ := hrel
    obtain ⟨f, rfl⟩ : ∃ g, f = g + 1 := ⟨f - 1, by omega⟩
    obtain ⟨c0, c1⟩ := u.cells
    have fz := u.cells2
    have HU := Lib.hid u
    rcases Nat.lt_or_ge a S.size with hlt | hge
    · have k1 : decide (a < S.size) = true := by simpa using hlt
      have hv := byteAt_ba hlt
      have h256 := UInt8.toNat_lt S[a]
      by_cases h35 : S[a].toNat = 35
      · have HX := Lib.hid (show toksGo (bl S) f (noteEnd (bl S) a) l = G by rw [← hG.out, toks_note (by omega) (by rw [hv]; exact h35)])
        have hne := noteEnd_bd (s := bl S) (a := a) (by omega) (by rw [hv, h35]; decide)
        have m35 : ((S[a].toNat : Int) == 35) = true := by simp; omega
        have hkb := kbl_extract S a ha
        clear u hv h35
        rcases Int.lt_or_le (Lib.indexByte ((bl S).drop a) 10) 0 with hneg | hpos
        · have hi : Lib.indexByte ((bl S).drop a) 10 = -1 := by have := Lib.indexByte_ge ((bl S).drop a) 10; omega
          have hE : noteEnd (bl S) a = S.size := by rw [noteEnd, if_neg (by omega), hlen]
          have HI := Lib.hid (fun w' => idx_any (S.extract a S.size) 10 (-1) w' (by rw [← hi, ← hkb]; rfl))
          rw [hE] at HX hne
          clear hneg hi hE hkb
          repeat (first | go_values | go_skip | go_guarded | go_step | go_upon)
          refine (HI.out _).mono ?_
          rintro e w1 ⟨rfl, hb1⟩
          have u1 := HU.out.below hb1
          obtain ⟨e0, e1⟩ := u1.cells
          have fz1 := u1.cells2
          dsimp only
          repeat (first | go_values | go_skip | go_guarded | go_step | go_upon)
          have u2 := CU.set1 (n := S.size) u1
          refine ⟨⟨f, S.size, l, u2, (bstep hb hb1).setCell (p := ⟨w.heap.size, 1, none⟩) (Nat.le_refl _) _, HX, by omega, by omega, by omega⟩, ?_⟩
          rw [u2.cells.2, HU.out.cells.2]
          simp [intOf]
          omega
        · obtain ⟨j, hj⟩ := Int.eq_ofNat_of_zero_le hpos
          have hE : noteEnd (bl S) a = a + j := by rw [noteEnd, if_pos hpos, hj]; rfl
          have HI := Lib.hid (fun w' => idx_any (S.extract a S.size) 10 (j : Int) w' (by rw [← hj, ← hkb]; rfl))
          rw [hE] at HX hne
          clear hpos hj hE hkb
          repeat (first | go_values | go_skip | go_guarded | go_step | go_upon)
          refine (HI.out _).mono ?_
          rintro e w1 ⟨rfl, hb1⟩
          have u1 := HU.out.below hb1
          obtain ⟨e0, e1⟩ := u1.cells
          have fz1 := u1.cells2
          dsimp only
          repeat (first | go_values | go_skip | go_guarded | go_step | go_upon)
          have u2 := CU.set1 (n := a + j) u1
          refine ⟨⟨f, a + j, l, u2, (bstep hb hb1).setCell (p := ⟨w.heap.size, 1, none⟩) (Nat.le_refl _) _, HX, by omega, by omega, by omega⟩, ?_⟩
          rw [show ((a : Int) + (j : Int)) = ((a + j : Nat) : Int) by omega, u2.cells.2, HU.out.cells.2]
          simp [intOf]
          omega
      · have m35 : ((S[a].toNat : Int) == 35) = false := by simp; omega
        have h35' : byteAt (bl S) a ≠ 35 := by rw [hv]; exact h35
        cases hk : isBlank S[a].toNat
        · have hk' : isBlank (byteAt (bl S) a) = false := by rw [hv]; exact hk
          have hkk : S[a].toNat ≠ 9 ∧ S[a].toNat ≠ 10 ∧ S[a].toNat ≠ 13 ∧ S[a].toNat ≠ 32 := by
            unfold isBlank at hk; simp at hk; omega
          obtain ⟨q9, q10, q13, q32⟩ := hkk
          have m9 : ((S[a].toNat : Int) == 9) = false := by simp; omega
          have m10 : ((S[a].toNat : Int) == 10) = false := by simp; omega
          have m13 : ((S[a].toNat : Int) == 13) = false := by simp; omega
          have m32 : ((S[a].toNat : Int) == 32) = false := by simp; omega
          cases ht : tokAt (bl S) a with
          | inl er =>
            have HX := Lib.hid (show G = .inl er by rw [← hG.out, toks_bad (by omega) h35' hk' ht])
            have HT := Lib.hid ht
            clear u hv h35 h35' hk hk' q9 q10 q13 q32 ht
            repeat (first | go_values | go_skip | go_guarded | go_step | go_upon)
            refine (token_no w.heap.size S a l _ (HL.out.below hb HL.out.pos) HU.out hs2 hlt (by omega) HT.out).mono ?_
            rintro e w1 ⟨⟨p, rfl, hp, hl⟩, hb1⟩
            dsimp only [id]
            repeat (first | go_values | go_skip | go_guarded | go_step | go_upon)
            go_ret2
            rw [HX.out]
            exact ⟨⟨p, rfl, hp, Nat.le_trans hb.size hl⟩, hb.trans hb1⟩
          | inr q =>
            obtain ⟨t, n⟩ := q
            have bd := tokAt_bd (by omega) ht
            have HX := Lib.hid (show toksGo (bl S) f n (l ++ [t]) = G by rw [← hG.out, toks_on (by omega) h35' hk' ht])
            have HT := Lib.hid ht
            clear u hv h35 h35' hk hk' q9 q10 q13 q32 ht
            repeat (first | go_values | go_skip | go_guarded | go_step | go_upon)
            refine (token_ok w.heap.size S a l _ (HL.out.below hb HL.out.pos) HU.out hs2 hlt (by omega) HT.out).mono ?_
            rintro e w1 ⟨rfl, u1, hb1⟩
            dsimp only
            repeat (first | go_values | go_skip | go_guarded | go_step | go_upon)
            refine ⟨⟨f, n, l ++ [t], u1, hb.trans hb1, HX, by omega, by omega, by simp; omega⟩, ?_⟩
            rw [u1.cells.2, HU.out.cells.2]
            simp [intOf]
            omega
        · have hk' : isBlank (byteAt (bl S) a) = true := by rw [hv]; exact hk
          have HX := Lib.hid (show toksGo (bl S) f (a + 1) l = G by rw [← hG.out, toks_blank (by omega) h35' hk'])
          have hkk : S[a].toNat = 9 ∨ S[a].toNat = 10 ∨ S[a].toNat = 13 ∨ S[a].toNat = 32 := by
            unfold isBlank at hk; simp at hk; omega
          have hmm : (((S[a].toNat : Int) == 9) = true) ∨ (((S[a].toNat : Int) == 9) = false ∧ ((S[a].toNat : Int) == 10) = true) ∨ (((S[a].toNat : Int) == 9) = false ∧ ((S[a].toNat : Int) == 10) = false ∧ ((S[a].toNat : Int) == 13) = true) ∨ (((S[a].toNat : Int) == 9) = false ∧ ((S[a].toNat : Int) == 10) = false ∧ ((S[a].toNat : Int) == 13) = false ∧ ((S[a].toNat : Int) == 32) = true) := by
            simp only [beq_iff_eq, beq_eq_false_iff_ne]; omega
          clear u hv h35 h35' hk hk' hkk
          rcases hmm with m9 | ⟨m9, m10⟩ | ⟨m9, m10, m13⟩ | ⟨m9, m10, m13, m32⟩
          all_goals
            repeat (first | go_values | go_skip | go_guarded | go_step | go_upon)
            have u2 := CU.set1 (n := a + 1) HU.out
            refine ⟨⟨f, a + 1, l, u2, hb.setCell (p := ⟨w.heap.size, 1, none⟩) (Nat.le_refl _) _, HX, by omega, by omega, by omega⟩, ?_⟩
            rw [show ((a : Int) + 1) = ((a + 1 : Nat) : Int) by omega, u2.cells.2, HU.out.cells.2]
            simp [intOf]
            omega
    · obtain rfl : a = S.size := by omega
      have HX := Lib.hid (show G = .inr (l ++ [⟨6, [], 0, S.size⟩]) by rw [← hG.out, toks_end (by omega), hlen])
      clear u
      repeat (first | go_values | go_skip | go_guarded | go_step | go_upon)
      refine (add_as w.heap.size S S.size l 6 [] _ S.size _ HU.out (by omega) (by omega)).mono ?_
      rintro e w1 ⟨rfl, u1, hb1⟩
      obtain ⟨v, hv, hown⟩ := u1
      obtain ⟨cD, fD, zD⟩ := cells_at hv
      dsimp only
      repeat (first | go_values | go_skip | go_guarded | go_step | go_upon)
      go_ret2
      rw [HX.out]
      exact ⟨v, rfl, hown.mono (Nat.le_succ _), hb.trans hb1⟩
end Go.Proofs.YtjlcoldnhbkcgaaGreatDoor
namespace Go.Proofs.YtjlcoldnhbkcgaaGreatDoor
open Go.RowKit

/-- Behind these bytes: are we in a note (or none: they are no blanks)? -/
def skipB : Bool → List UInt8 → Option Bool
  | n, [] => some n
  | true, b :: l => skipB (b.toNat != 10) l
  | false, b :: l => if b.toNat = 35 then skipB true l else if isBlank b.toNat then skipB false l else none
theorem skip_app : ∀ (u v : List UInt8) (n : Bool), skipB n (u ++ v) = (skipB n u).bind fun k => skipB k v := by
  intro u
  induction u with
  | nil => intro v n; cases n <;> rfl
  | cons b u ih =>
    intro v n
    rw [List.cons_append]
    cases n
    · rw [skipB, skipB]
      split
      · exact ih v true
      split
      · exact ih v false
      · rfl
    · rw [skipB, skipB]
      exact ih v _
theorem skip_note {u : List UInt8} (h : ∀ b ∈ u, b ≠ 10) : skipB true u = some true := by
  induction u with
  | nil => rfl
  | cons b u ih =>
    have hb : b ≠ 10 := h b List.mem_cons_self
    have : (b.toNat != 10) = true := by
      simp
      intro e
      exact hb (UInt8.toNat_inj.1 e)
    rw [skipB, this]
    exact ih (fun c hc => h c (List.mem_cons_of_mem _ hc))
theorem skip_split : ∀ {v : List UInt8}, skipB true v = some false → ∃ v1 v2, v = v1 ++ 10 :: v2 ∧ (∀ b ∈ v1, b ≠ 10) ∧ skipB false v2 = some false := by
  intro v
  induction v with
  | nil => intro h; cases h
  | cons b v ih =>
    intro h
    by_cases hb : b = 10
    · subst hb
      refine ⟨[], v, rfl, (fun b hb => by cases hb), ?_⟩
      simpa [skipB] using h
    · have : (b.toNat != 10) = true := by
        simp
        intro e
        exact hb (UInt8.toNat_inj.1 e)
      rw [skipB, this] at h
      obtain ⟨v1, v2, e1, e2, e3⟩ := ih h
      refine ⟨b :: v1, v2, by rw [e1]; rfl, ?_, e3⟩
      intro c hc
      rcases List.mem_cons.1 hc with rfl | hc
      · exact hb
      · exact e2 c hc
theorem drop_next {t u : List UInt8} {q : Nat} {b : UInt8} (h : t.drop q = b :: u) : t.drop (q + 1) = u := by
  have := congrArg (List.drop 1) h
  simpa [List.drop_drop] using this
theorem drop_in {t u : List UInt8} {q : Nat} {b : UInt8} (h : t.drop q = b :: u) : q < t.length ∧ byteAt t q = b.toNat := by
  have hl := congrArg List.length h
  simp at hl
  refine ⟨by omega, ?_⟩
  have := drop_byte t q 0
  rw [h, Nat.add_zero] at this
  rw [← this]
  rfl
theorem drop_more {t u v : List UInt8} {q : Nat} (h : t.drop q = u ++ v) : t.drop (q + u.length) = v := by
  have := congrArg (List.drop u.length) h
  simpa [List.drop_drop] using this
theorem note_here {t v1 w : List UInt8} {q : Nat} (h : t.drop q = 35 :: (v1 ++ 10 :: w)) (hn : ∀ b ∈ v1, b ≠ 10) : noteEnd t q = q + (v1.length + 1) := by
  unfold noteEnd
  have : Lib.indexByte (t.drop q) 10 = ((v1.length + 1 : Nat) : Int) := by
    rw [h, ← List.cons_append]
    have := index_end (y := w) (index_none (l := 35 :: v1) (c := 10) (by
      intro b hb
      rcases List.mem_cons.1 hb with rfl | hb
      · decide
      · exact hn b hb))
    rw [this]
    rfl
  rw [this, if_pos (by omega)]
  rfl
/-- Blanks are passed. -/
theorem skip_run {t : List UInt8} {acc : List Tok} : ∀ (k : Nat) (u : List UInt8) (f q : Nat) (r : List UInt8), u.length ≤ k → t.drop q = u ++ r → skipB false u = some false → u.length ≤ f →
    ∃ f', f ≤ f' + u.length ∧ toksGo t f q acc = toksGo t f' (q + u.length) acc := by
  intro k
  induction k with
  | zero =>
    intro u f q r hk h hs hf
    obtain rfl : u = [] := List.eq_nil_of_length_eq_zero (by omega)
    exact ⟨f, by simp, by simp⟩
  | succ k ih =>
    intro u f q r hk h hs hf
    cases u with
    | nil => exact ⟨f, by simp, by simp⟩
    | cons b v =>
      simp at hf hk
      obtain ⟨f, rfl⟩ : ∃ g, f = g + 1 := ⟨f - 1, by omega⟩
      have hq := drop_in (show t.drop q = b :: (v ++ r) from h)
      rw [skipB] at hs
      split at hs
      · next h35 =>
        obtain ⟨v1, v2, e1, e2, e3⟩ := skip_split hs
        subst e1
        have hb : b = 35 := UInt8.toNat_inj.1 h35
        subst hb
        simp at hf hk
        obtain ⟨f, rfl⟩ : ∃ g, f = g + 1 := ⟨f - 1, by omega⟩
        have h2 : t.drop q = 35 :: (v1 ++ 10 :: (v2 ++ r)) := by rw [h]; simp
        have hd : t.drop (q + (v1.length + 1)) = 10 :: (v2 ++ r) := drop_more (u := 35 :: v1) (by rw [h2]; rfl)
        have hq2 := drop_in hd
        have hd2 := drop_next hd
        obtain ⟨f', g1, g2⟩ := ih v2 f (q + (v1.length + 1) + 1) r (by omega) hd2 e3 (by omega)
        refine ⟨f', by simp; omega, ?_⟩
        rw [toks_note hq.1 (by rw [hq.2]; exact h35), note_here h2 e2, toks_blank hq2.1 (by rw [hq2.2]; decide) (by rw [hq2.2]; rfl), g2]
        congr 1
        simp
        omega
      · next h35 =>
        split at hs
        · next hb =>
          obtain ⟨f', g1, g2⟩ := ih v f (q + 1) r (by omega) (drop_next h) hs (by omega)
          refine ⟨f', by simp; omega, ?_⟩
          rw [toks_blank hq.1 (by rw [hq.2]; exact h35) (by rw [hq.2]; exact hb), g2]
          congr 1
          simp
          omega
        · cases hs
/-- The bytes of s from a up to b. -/
def cutS (s : List UInt8) (a b : Nat) : List UInt8 := (s.drop a).take (b - a)
theorem cutS_len {s : List UInt8} {a b : Nat} (hb : b ≤ s.length) : (cutS s a b).length = b - a := by simp [cutS]; omega
theorem cutS_app {s : List UInt8} {a b c : Nat} (h1 : a ≤ b) (h2 : b ≤ c) : cutS s a c = cutS s a b ++ cutS s b c := by
  unfold cutS
  have e : c - a = (b - a) + (c - b) := by omega
  have e2 : s.drop b = (s.drop a).drop (b - a) := by rw [List.drop_drop]; congr 1; omega
  rw [e, e2, List.take_add]
theorem cutS_self (s : List UInt8) (a : Nat) : cutS s a a = [] := by simp [cutS]
theorem cutS_one {s : List UInt8} {a : Nat} (h : a < s.length) : cutS s a (a + 1) = [s[a]] := by
  unfold cutS
  rw [Nat.add_sub_cancel_left, List.drop_eq_getElem_cons h]
  rfl
theorem cutS_head {s : List UInt8} {a b : Nat} (h : a < b) (hb : b ≤ s.length) : cutS s a b = s[a] :: cutS s (a + 1) b := by
  rw [cutS_app (b := a + 1) (by omega) (by omega), cutS_one (by omega)]
  rfl
/-- The tokens of a source, each with the blanks behind it. -/
inductive Cuts (s : List UInt8) : Nat → List Tok → Prop
  | last : Cuts s s.length []
  | tok {a n b : Nat} {t : Tok} {nt : Bool} {l : List Tok} : a < s.length → tokAt s a = .inr (t, n) → byteAt s a ≠ 35 → isBlank (byteAt s a) = false → n ≤ b → b ≤ s.length →
      skipB false (cutS s n b) = some nt → (b < s.length → nt = false) → Cuts s b l → Cuts s a (t :: l)
theorem Cuts.notBlank {s : List UInt8} {b : Nat} {l : List Tok} (h : Cuts s b l) (hb : b < s.length) : isBlank (byteAt s b) = false := by
  cases h with
  | last => omega
  | tok _ _ _ h => exact h
theorem note_cut {s : List UInt8} {a : Nat} (ha : a < s.length) (h : byteAt s a = 35) : skipB false (cutS s a (noteEnd s a)) = some true ∧ (noteEnd s a < s.length → byteAt s (noteEnd s a) = 10) := by
  have hbd := noteEnd_bd ha (by omega)
  have h35 : s[a].toNat = 35 := by rw [← byteAt_lt ha]; exact h
  have key : ∀ b ∈ cutS s a (noteEnd s a), b ≠ 10 := by
    unfold noteEnd
    split
    · next h0 =>
      obtain ⟨n, hn⟩ := Int.eq_ofNat_of_zero_le h0
      rw [hn]
      have h1 := (indexByte_some hn).2
      intro b hb
      unfold cutS at hb
      simp at hb
      obtain ⟨i, hi, he⟩ := List.mem_take_iff_getElem.1 hb
      intro e
      refine h1 i (by omega) ?_
      rw [List.getElem?_eq_getElem (by omega), he, e]
    · next h0 =>
      have hm : Lib.indexByte (s.drop a) 10 = -1 := by have := Lib.indexByte_ge (s.drop a) 10; omega
      have h1 := indexByte_none hm
      intro b hb
      unfold cutS at hb
      obtain ⟨i, hi, he⟩ := List.mem_take_iff_getElem.1 hb
      intro e
      refine h1 i ?_
      rw [List.getElem?_eq_getElem (by omega), he, e]
  constructor
  · rw [cutS_head hbd.1 hbd.2] at key ⊢
    rw [skipB, if_pos h35]
    exact skip_note (fun b hb => key b (List.mem_cons_of_mem _ hb))
  · intro hlt
    unfold noteEnd at hlt ⊢
    split at hlt
    · next h0 =>
      rw [if_pos h0]
      obtain ⟨n, hn⟩ := Int.eq_ofNat_of_zero_le h0
      rw [hn]
      have h1 := (indexByte_some hn).1
      rw [← drop_byte]
      simp [byteAt, h1]
    · omega
theorem cuts_of {s : List UInt8} : ∀ {f a : Nat} {acc r : List Tok}, toksGo s f a acc = .inr r → a ≤ s.length →
    ∃ b nt l, a ≤ b ∧ b ≤ s.length ∧ skipB false (cutS s a b) = some nt ∧ (b < s.length → nt = false) ∧ Cuts s b l ∧ r = acc ++ l ++ [⟨6, [], 0, s.length⟩] := by
  intro f
  induction f with
  | zero => intro a acc r h; cases h
  | succ f ih =>
    intro a acc r h ha
    rw [toksGo] at h
    split at h
    · obtain rfl : a = s.length := by omega
      have e := Sum.inr.inj h
      subst e
      exact ⟨s.length, false, [], Nat.le_refl _, Nat.le_refl _, by rw [cutS_self]; rfl, fun _ => rfl, .last, by simp⟩
    next hlt =>
    split at h
    · next h35 =>
      have hbd := noteEnd_bd (s := s) (a := a) (by omega) (by omega)
      obtain ⟨c1, c2⟩ := note_cut (by omega) h35
      obtain ⟨b, nt, l, h1, h2, h3, h4, h5, h6⟩ := ih h hbd.2
      rcases Nat.lt_or_ge (noteEnd s a) b with hb | hb
      · refine ⟨b, nt, l, by omega, h2, ?_, h4, h5, h6⟩
        rw [cutS_app (b := noteEnd s a) (by omega) h1, skip_app, c1]
        have hm : s[noteEnd s a].toNat = 10 := by rw [← byteAt_lt]; exact c2 (by omega)
        rw [cutS_head hb h2] at h3 ⊢
        rw [skipB, hm, if_neg (by decide), if_pos (by decide)] at h3
        simp only [Option.bind, skipB]
        rw [hm]
        exact h3
      · obtain rfl : b = noteEnd s a := by omega
        rcases Nat.lt_or_ge (noteEnd s a) s.length with hl | hl
        · exfalso
          have h10 := c2 hl
          have := h5.notBlank hl
          rw [h10] at this
          cases this
        · exact ⟨noteEnd s a, true, l, by omega, h2, c1, fun hh => by omega, h5, h6⟩
    next h35 =>
    split at h
    · next hb =>
      obtain ⟨b, nt, l, h1, h2, h3, h4, h5, h6⟩ := ih h (by omega)
      refine ⟨b, nt, l, by omega, h2, ?_, h4, h5, h6⟩
      have hx : byteAt s a = s[a].toNat := byteAt_lt (by omega)
      rw [cutS_head (by omega) h2, skipB, if_neg (by rw [← hx]; exact h35), if_pos (by rw [← hx]; exact hb)]
      exact h3
    next hb =>
    split at h
    · cases h
    next t n e =>
    have bd := tokAt_bd (by omega) e
    obtain ⟨b, nt, l, h1, h2, h3, h4, h5, h6⟩ := ih h bd.2.1
    refine ⟨a, false, t :: l, Nat.le_refl _, ha, by rw [cutS_self]; rfl, fun _ => rfl, .tok (by omega) e h35 (by simpa using hb) h1 h2 h3 h4 h5, by rw [h6]; simp⟩
/-- Where the next token stands. -/
def nextPos (s : List UInt8) : List Tok → Nat
  | [] => s.length
  | t :: _ => t.pos
theorem Cuts.pos {s : List UInt8} {a : Nat} {l : List Tok} (h : Cuts s a l) : nextPos s l = a := by
  cases h with
  | last => rfl
  | tok h1 h2 => exact (tokAt_bd h1 h2).2.2
/-- The pieces, with something between each two and at the end. -/
def glue (s : List UInt8) (sep : Nat → List UInt8) : Nat → List Tok → List UInt8
  | _, [] => []
  | i, t :: l => cutS s t.pos (nextPos s l) ++ sep i ++ glue s sep (i + 1) l
/-- Blanks in a line of their own. -/
def Sep (u : List UInt8) : Prop := ∃ v, u = 10 :: v ∧ skipB false v = some false
theorem Sep.skip {u : List UInt8} (h : Sep u) (n : Bool) : skipB n u = some false := by
  obtain ⟨v, rfl, hv⟩ := h
  cases n
  · rw [skipB, if_neg (by decide), if_pos (by decide)]; exact hv
  · rw [skipB]; exact hv
def core (t : Tok) : Nat × List UInt8 × BitVec 256 := (t.kind, t.text, t.cls)
theorem blank_cont {b : Nat} (n : Nat) (h : b = 35 ∨ isBlank b = true) : cont n b = false := by
  rcases h with rfl | h
  · simp [cont, isLet, isDig]
  · simp [isBlank] at h
    rcases h with ((rfl | rfl) | rfl) | rfl <;> simp [cont, isLet, isDig]
theorem glue_toks {s : List UInt8} {sep : Nat → List UInt8} (hsep : ∀ i, Sep (sep i)) {a : Nat} {l : List Tok} (h : Cuts s a l) : ∀ (t : List UInt8) (i f q : Nat) (acc : List Tok), t.drop q = glue s sep i l → q ≤ t.length → t.length < f + q →
    ∃ r, toksGo t f q acc = .inr (acc ++ r ++ [⟨6, [], 0, t.length⟩]) ∧ r.map core = l.map core := by
  induction h with
  | last =>
    intro t i f q acc hd hq hf
    rw [glue] at hd
    have hl := congrArg List.length hd
    simp at hl
    obtain ⟨f, rfl⟩ : ∃ g, f = g + 1 := ⟨f - 1, by omega⟩
    exact ⟨[], by rw [toks_end (by omega)]; simp, rfl⟩
  | @tok a n b t0 nt l ha e h35 hbl hnb hb hs hnt hc ih =>
    intro t i f q acc hd hqt hf
    have bd := tokAt_bd ha e
    rw [glue, hc.pos, bd.2.2] at hd
    have hcl := cutS_len (s := s) (a := a) hb
    have hlen := congrArg List.length hd
    simp only [List.length_append, List.length_drop, hcl] at hlen
    obtain ⟨v, hv, _⟩ := hsep i
    have hsl : 1 ≤ (sep i).length := by rw [hv]; simp
    have hag : Agr s t a q b := by
      intro j hj
      rw [← drop_byte, hd, List.append_assoc]
      unfold byteAt
      rw [List.getElem?_append_left (by omega)]
      unfold cutS
      rw [List.getElem?_take, if_pos (by omega), List.getElem?_drop]
    have hq : q < t.length := by omega
    obtain ⟨f, rfl⟩ : ∃ g, f = g + 1 := ⟨f - 1, by omega⟩
    have hd2 : t.drop (q + (n - a)) = (cutS s n b ++ sep i) ++ glue s sep (i + 1) l := by
      rw [cutS_app (b := n) (by omega) hnb, List.append_assoc, List.append_assoc] at hd
      have := drop_more hd
      rw [cutS_len bd.2.1] at this
      rw [this, List.append_assoc]
    have hsk : skipB false (cutS s n b ++ sep i) = some false := by rw [skip_app, hs]; exact (hsep i).skip nt
    have htok := tok_agr ha e (hag.mono hnb) (by
      intro _
      unfold Ends
      apply blank_cont
      rcases Nat.lt_or_ge n b with hlt | hge
      · rw [cutS_head hlt hb, skipB] at hs
        have hx := hag (n - a) (by omega)
        rw [show a + (n - a) = n by omega] at hx
        rw [hx, byteAt_lt (show n < s.length by omega)]
        split at hs
        · next h => exact .inl h
        split at hs
        · next h => exact .inr h
        · cases hs
      · obtain rfl : n = b := by omega
        rw [cutS_self, List.nil_append, hv] at hd2
        rw [(drop_in hd2).2]
        exact .inr rfl)
    have hlc : (cutS s n b ++ sep i).length = (b - n) + (sep i).length := by rw [List.length_append, cutS_len hb]
    obtain ⟨f', g1, g2⟩ := skip_run (acc := acc ++ [⟨t0.kind, t0.text, t0.cls, q⟩]) _ (cutS s n b ++ sep i) f (q + (n - a)) (glue s sep (i + 1) l) (Nat.le_refl _) hd2 hsk (by omega)
    obtain ⟨r, r1, r2⟩ := ih t (i + 1) f' (q + (n - a) + (cutS s n b ++ sep i).length) (acc ++ [⟨t0.kind, t0.text, t0.cls, q⟩]) (drop_more hd2) (by omega) (by omega)
    refine ⟨⟨t0.kind, t0.text, t0.cls, q⟩ :: r, ?_, by rw [List.map_cons, List.map_cons, r2]; rfl⟩
    rw [toks_on hq (by rw [hag.here (by omega)]; exact h35) (by rw [hag.here (by omega)]; exact hbl) htok, g2, r1]
    simp
end Go.Proofs.YtjlcoldnhbkcgaaGreatDoor
namespace Go.Proofs.YtjlcoldnhbkcgaaGreatDoor
open Go.RowKit

theorem isName_spec {s : List UInt8} (h : isName s = true) : 0 < s.length ∧ s.length ≤ 32 ∧ nameLen s 0 = s.length := by
  unfold isName at h
  simp at h
  exact ⟨by have := h.1.1; exact List.length_pos_iff.2 this, h.1.2, h.2⟩
theorem isName_of {s : List UInt8} (h0 : 0 < s.length) (h1 : s.length ≤ 32) (h2 : nameLen s 0 = s.length) : isName s = true := by
  unfold isName
  simp [h1, h2]
  exact List.ne_nil_of_length_pos h0
theorem cont_letter {b : Nat} (h : cont 0 b = true) : b ≠ 35 ∧ isBlank b = false := by
  simp [cont, isLet] at h
  unfold isBlank
  simp
  omega
theorem named_toks {s : List UInt8} (h : isName s = true) : toks s = .inr [⟨1, s, 0, 0⟩, ⟨6, [], 0, s.length⟩] := by
  obtain ⟨h0, h1, h2⟩ := isName_spec h
  have hc := (nameLen_spec s 0).1 0 (by omega)
  obtain ⟨k1, k2⟩ := cont_letter hc
  simp only [Nat.add_zero] at k1 k2
  have ht : tokAt s 0 = .inr (⟨1, s, 0, 0⟩, s.length) := by
    rw [tokAt, h2, if_neg (by omega), if_pos h0, List.drop_zero, List.take_length, Nat.zero_add]
  have e : 2 * s.length + 2 = (2 * s.length + 1) + 1 := by omega
  have e2 : 2 * s.length + 1 = (2 * s.length) + 1 := rfl
  rw [toks, e, toks_on (by omega) k1 k2 ht, e2, toks_end (Nat.le_refl _)]
  rfl
/-- What a name token is. -/
def NameTok (s : List UInt8) (t : Tok) : Prop := t.kind = 1 → ∃ p, p ≤ s.length ∧ 0 < nameLen s p ∧ nameLen s p ≤ 32 ∧ t.text = (s.drop p).take (nameLen s p)
theorem tokAt_name {s : List UInt8} {a n : Nat} {t : Tok} (ha : a < s.length) (e : tokAt s a = .inr (t, n)) : NameTok s t := by
  intro hk
  unfold tokAt at e
  split at e
  · cases e
  split at e
  · simp at e; obtain ⟨e1, _⟩ := e; subst e1; exact ⟨a, by omega, by omega, by omega, rfl⟩
  split at e
  · simp at e; obtain ⟨e1, _⟩ := e; subst e1; simp at hk
  split at e
  · simp at e; obtain ⟨e1, _⟩ := e; subst e1; simp at hk
  split at e
  · split at e
    · cases e
    · simp at e; obtain ⟨e1, _⟩ := e; subst e1; simp at hk
  split at e
  · split at e
    · cases e
    · simp at e; obtain ⟨e1, _⟩ := e; subst e1; simp at hk
  · cases e
theorem toksGo_name {s : List UInt8} : ∀ {f a : Nat} {l r : List Tok}, toksGo s f a l = .inr r → (∀ t ∈ l, NameTok s t) → ∀ t ∈ r, NameTok s t := by
  intro f
  induction f with
  | zero => intro a l r h; cases h
  | succ f ih =>
    intro a l r h hl
    rw [toksGo] at h
    split at h
    · have e := Sum.inr.inj h
      subst e
      intro t ht
      rw [List.mem_append] at ht
      rcases ht with ht | ht
      · exact hl t ht
      · simp at ht; subst ht; intro hk; simp at hk
    split at h
    · exact ih h hl
    split at h
    · exact ih h hl
    split at h
    · cases h
    · next ha _ _ _ t n he =>
      refine ih h ?_
      intro u hu
      rw [List.mem_append] at hu
      rcases hu with hu | hu
      · exact hl u hu
      · simp at hu; subst hu; exact tokAt_name (by omega) he
theorem toks_named {s : List UInt8} {t : Tok} {l : List Tok} (h : toks s = .inr (t :: l)) (hk : t.kind = 1) (ht : t.text = s) : isName s = true := by
  obtain ⟨p, h1, h2, h3, h4⟩ := toksGo_name h (fun t ht => by simp at ht) t List.mem_cons_self hk
  have hin := nameLen_in s p h1
  have hl : s.length = nameLen s p := by
    have := congrArg List.length h4
    rw [ht] at this
    simp at this
    omega
  obtain rfl : p = 0 := by omega
  exact isName_of (by omega) (by omega) hl.symm
theorem named_more {s : List UInt8} (h : isName s = true) : isName (s ++ [120]) = decide (s.length < 32) := by
  obtain ⟨h0, h1, h2⟩ := isName_spec h
  have hs := nameLen_spec s 0
  rw [h2] at hs
  have hn : nameLen (s ++ [120]) 0 = s.length + 1 := by
    apply nameLen_is
    · intro j hj
      rcases Nat.lt_or_ge j s.length with hj2 | hj2
      · have := hs.1 j hj2
        rw [Nat.zero_add] at this ⊢
        rw [byteAt, List.getElem?_append_left hj2]
        exact this
      · obtain rfl : j = s.length := by omega
        rw [Nat.zero_add, byteAt, List.getElem?_append_right (Nat.le_refl _)]
        simp [cont, isLet]
    · rw [byteAt_ge (by simp)]
      simp [cont, isLet, isDig]
  unfold isName
  rw [hn]
  simp
  omega
end Go.Proofs.YtjlcoldnhbkcgaaGreatDoor
namespace Go.Proofs.YtjlcoldnhbkcgaaGreatDoor
open Go.RowKit

/-- A byte in a literal. -/
def qch (b : Nat) : List UInt8 :=
  if b = 10 then [92, 110] else if b = 13 then [92, 114] else if b = 9 then [92, 116] else if b = 39 then [92, 39] else if b = 92 then [92, 92]
  else if 32 ≤ b ∧ b ≤ 126 then [b.toUInt8] else [92, 120, hexd (b / 16), hexd (b % 16)]
/-- The first k bytes. -/
def quoTo (p : List UInt8) : Nat → List UInt8
  | 0 => [39]
  | k + 1 => quoTo p k ++ qch (byteAt p k)
/-- Bytes as a literal. -/
def quoted (p : List UInt8) : List UInt8 := quoTo p p.length ++ [39]
theorem qch_len (b : Nat) : 1 ≤ (qch b).length ∧ (qch b).length ≤ 4 := by
  unfold qch; repeat (first | split | simp)
theorem quoTo_len (p : List UInt8) : ∀ k, (quoTo p k).length ≤ 1 + 4 * k := by
  intro k
  induction k with
  | zero => simp [quoTo]
  | succ k ih => rw [quoTo, List.length_append]; have := qch_len (byteAt p k); omega
theorem qch_kinds (b : Nat) (_ : b < 256) : (b = 10 ∨ b = 13 ∨ b = 9 ∨ b = 39 ∨ b = 92) ∨ (b ≠ 10 ∧ b ≠ 13 ∧ b ≠ 9 ∧ b ≠ 39 ∧ b ≠ 92 ∧ 32 ≤ b ∧ b ≤ 126) ∨ (b ≠ 10 ∧ b ≠ 13 ∧ b ≠ 9 ∧ b ≠ 39 ∧ b ≠ 92 ∧ (b < 32 ∨ 126 < b)) := by omega
theorem qch_plain {b : Nat} (h : b ≠ 10 ∧ b ≠ 13 ∧ b ≠ 9 ∧ b ≠ 39 ∧ b ≠ 92 ∧ 32 ≤ b ∧ b ≤ 126) : qch b = [b.toUInt8] := by
  obtain ⟨h1, h2, h3, h4, h5, h6, h7⟩ := h
  unfold qch; rw [if_neg h1, if_neg h2, if_neg h3, if_neg h4, if_neg h5, if_pos ⟨h6, h7⟩]
theorem qch_hex {b : Nat} (h : b ≠ 10 ∧ b ≠ 13 ∧ b ≠ 9 ∧ b ≠ 39 ∧ b ≠ 92 ∧ (b < 32 ∨ 126 < b)) : qch b = [92, 120, hexd (b / 16), hexd (b % 16)] := by
  obtain ⟨h1, h2, h3, h4, h5, h6⟩ := h
  unfold qch; rw [if_neg h1, if_neg h2, if_neg h3, if_neg h4, if_neg h5, if_neg (by omega)]
theorem qmark_no' : ∀ b, b < 256 → (b == 10 || b == 13 || b == 9 || b == 39 || b == 92) = false → Lib.indexByte [10, 13, 9, 39, 92] b.toUInt8 = -1 := by decide +kernel
theorem qmark_no {b : Nat} (h : b < 256) (h1 : b ≠ 10) (h2 : b ≠ 13) (h3 : b ≠ 9) (h4 : b ≠ 39) (h5 : b ≠ 92) : Lib.indexByte [10, 13, 9, 39, 92] b.toUInt8 = -1 := qmark_no' b h (by simp [h1, h2, h3, h4, h5])
end Go.Proofs.YtjlcoldnhbkcgaaGreatDoor
