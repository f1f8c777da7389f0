/- What is read well is read alike with more behind it: plain. | What is read at a place is read alike wherever the same bytes stand: plain. -/
import Derived.Test.YteohgaheockepaaDoorG1
namespace Go.Proofs.YteohgaheockepaaDoor
open Go.RowKit

theorem byteAt_ext {s x : List UInt8} {a : Nat} (h : a < s.length) : byteAt (s ++ x) a = byteAt s a := by
  unfold byteAt; rw [List.getElem?_append_left h]
theorem low_ext {s x : List UInt8} {h a c n : Nat} (e : lowAt s h a = .inr (c, n)) : lowAt (s ++ x) h a = .inr (c, n) := by
  unfold lowAt at *
  split at e
  · cases e
  · next hd => rw [byteAt_ext (byteAt_in (digV_in hd)), if_neg hd]; exact e
theorem hex_ext {s x : List UInt8} {a c n : Nat} (e : hexAt s a = .inr (c, n)) : hexAt (s ++ x) a = .inr (c, n) := by
  unfold hexAt at *
  split at e
  · cases e
  · next hd => rw [byteAt_ext (byteAt_in (digV_in hd)), if_neg hd]; exact low_ext e
theorem esc_ext {s x : List UInt8} {a c n : Nat} (e : escAt s a = .inr (c, n)) : escAt (s ++ x) a = .inr (c, n) := by
  have hb := escAt_bd e
  unfold escAt at *
  rw [byteAt_ext (by omega)]
  split at e
  · next h => rw [if_pos h]; exact e
  next g1 =>
  rw [if_neg g1]
  split at e
  · next h => rw [if_pos h]; exact e
  next g2 =>
  rw [if_neg g2]
  split at e
  · next h => rw [if_pos h]; exact e
  next g3 =>
  rw [if_neg g3]
  split at e
  · next h => rw [if_pos h]; exact e
  next g4 =>
  rw [if_neg g4]
  split at e
  · next h => rw [if_pos h]; exact hex_ext e
  · cases e
theorem sgn_ext {s x : List UInt8} {a c n : Nat} (e : sgnAt s a = .inr (c, n)) : sgnAt (s ++ x) a = .inr (c, n) := by
  have hb := sgnAt_bd e
  unfold sgnAt at *
  rw [byteAt_ext (by omega)]
  split at e
  · next h => rw [if_pos h]; exact esc_ext e
  next g1 =>
  rw [if_neg g1]
  split at e
  · cases e
  · next h => rw [if_neg h]; exact e
theorem hi_ext {s x : List UInt8} {lo a c n : Nat} (ha : a < s.length) (e : hiAt s lo a = .inr (c, n)) : hiAt (s ++ x) lo a = .inr (c, n) := by
  unfold hiAt at *
  rw [byteAt_ext ha]
  split at e
  · next h => rw [if_pos h]; exact sgn_ext e
  · next h => rw [if_neg h]; exact e
theorem mem_ext {s x : List UInt8} {a n : Nat} {m : BitVec 256} (e : memAt s a = .inr (m, n)) (hn : n < s.length) : memAt (s ++ x) a = .inr (m, n) := by
  unfold memAt at *
  split at e
  · cases e
  next lo p h1 =>
  have b1 := sgnAt_bd h1
  rw [sgn_ext h1]
  simp only
  split at e
  · cases e
  next hi q h2 =>
  have b2 := hiAt_bd (by omega) (by omega) h2
  split at e
  · cases e
  next h3 =>
  simp at e
  rw [hi_ext (by omega) h2]
  simp only
  rw [if_neg h3, e.1, e.2]
theorem mems_ext {s x : List UInt8} : ∀ {f g a n : Nat} {c m : BitVec 256}, memsAt s f a c = .inr (m, n) → f ≤ g → memsAt (s ++ x) g a c = .inr (m, n) := by
  intro f
  induction f with
  | zero => intro g a n c m h; cases h
  | succ f ih =>
    intro g a n c m h hg
    obtain ⟨g, rfl⟩ : ∃ j, g = j + 1 := ⟨g - 1, by omega⟩
    rw [memsAt] at h ⊢
    split at h
    · next h93 =>
      have := byteAt_in (s := s) (a := a) (by omega)
      rw [byteAt_ext this, if_pos h93]
      exact h
    next h93 =>
    split at h
    · cases h
    next m' n' e =>
    have b1 := memAt_bd e
    have b2 := memsAt_bd h
    rw [byteAt_ext (by omega), if_neg h93, mem_ext e (by omega)]
    simp only
    exact ih h (by omega)
theorem parsed_ext {s x : List UInt8} {c : BitVec 256} {n : Nat} (h : parsed s = .inr (c, n)) : parsed (s ++ x) = .inr (c, n) := by
  have hb := parsed_bd h
  unfold parsed at *
  rw [byteAt_ext (by omega), byteAt_ext (by omega)]
  split at h
  · next h0 =>
    rw [if_pos h0]
    split at h
    · next h1 =>
      rw [if_pos h1]
      split at h
      · cases h
      · next e =>
        rw [mems_ext e (by rw [List.length_append]; omega)]
        exact h
    · next h1 =>
      rw [if_neg h1]
      exact mems_ext h (by rw [List.length_append]; omega)
  · cases h
theorem lesc_ext {s x : List UInt8} {a c n : Nat} (e : lescAt s a = .inr (c, n)) : lescAt (s ++ x) a = .inr (c, n) := by
  have hb := lescAt_bd e
  unfold lescAt at *
  rw [byteAt_ext (by omega)]
  split at e
  · next h => rw [if_pos h]; exact e
  next g1 =>
  rw [if_neg g1]
  split at e
  · next h => rw [if_pos h]; exact e
  next g2 =>
  rw [if_neg g2]
  split at e
  · next h => rw [if_pos h]; exact e
  next g3 =>
  rw [if_neg g3]
  split at e
  · next h => rw [if_pos h]; exact e
  next g4 =>
  rw [if_neg g4]
  split at e
  · next h => rw [if_pos h]; exact hex_ext e
  · cases e
theorem lch_ext {s x : List UInt8} {a c n : Nat} (e : lchAt s a = .inr (c, n)) : lchAt (s ++ x) a = .inr (c, n) := by
  have hb := lchAt_bd e
  unfold lchAt at *
  rw [byteAt_ext (by omega)]
  split at e
  · next h => rw [if_pos h]; exact lesc_ext e
  next g1 =>
  rw [if_neg g1]
  split at e
  · cases e
  · next h => rw [if_neg h]; exact e
theorem lit_ext {s x : List UInt8} {q st : Nat} : ∀ {f g a n : Nat} {l m : List UInt8}, litGo s q st f a l = .inr (m, n) → f ≤ g → litGo (s ++ x) q st g a l = .inr (m, n) := by
  intro f
  induction f with
  | zero => intro g a n l m h; cases h
  | succ f ih =>
    intro g a n l m h hg
    obtain ⟨g, rfl⟩ : ∃ j, g = j + 1 := ⟨g - 1, by omega⟩
    rw [litGo] at h ⊢
    split at h
    · cases h
    next hl =>
    rw [if_neg (by rw [List.length_append]; omega), byteAt_ext (by omega)]
    split at h
    · next hq => rw [if_pos hq]; exact h
    next hq =>
    rw [if_neg hq]
    split at h
    · cases h
    next c k e =>
    rw [lch_ext e]
    simp only
    split at h
    · cases h
    · next h5 => rw [if_neg h5]; exact ih h (by omega)
/-- Behind a source that is read well a new line changes nothing. -/
theorem name_ext {s x : List UInt8} {a : Nat} (ha : a ≤ s.length) : nameLen (s ++ 10 :: x) a = nameLen s a := by
  have h := nameLen_spec s a
  have hin := nameLen_in s a ha
  apply nameLen_is
  · intro j hj
    have h1 := h.1 j hj
    rw [byteAt_ext (byteAt_in (cont_in h1))]
    exact h1
  · rcases Nat.lt_or_ge (a + nameLen s a) s.length with hl | hl
    · rw [byteAt_ext hl]; exact h.2
    · have e : a + nameLen s a = s.length := by omega
      have : byteAt (s ++ 10 :: x) (a + nameLen s a) = 10 := by rw [e]; simp [byteAt]
      rw [this]
      simp [cont, isLet, isDig]
theorem tok_ext {s x : List UInt8} {a n : Nat} {t : Tok} (ha : a < s.length) (e : tokAt s a = .inr (t, n)) : tokAt (s ++ 10 :: x) a = .inr (t, n) := by
  have hin := nameLen_in s a (by omega)
  unfold tokAt at *
  rw [name_ext (by omega), byteAt_ext ha]
  split at e
  · cases e
  next g1 =>
  rw [if_neg g1]
  split at e
  · next h =>
    rw [if_pos h, List.drop_append_of_le_length (by omega), List.take_append_of_le_length (by rw [List.length_drop]; omega)]
    exact e
  next g2 =>
  rw [if_neg g2]
  split at e
  · next h => rw [if_pos h]; exact e
  next g3 =>
  rw [if_neg g3]
  split at e
  · next h =>
    have h1 := byteAt_in (s := s) (a := a + 1) (by omega)
    rw [byteAt_ext h1, if_pos h]; exact e
  next g4 =>
  have g4' : ¬ (byteAt s a = 60 ∧ byteAt (s ++ 10 :: x) (a + 1) = 45) := by
    rintro ⟨h1, h2⟩
    rcases Nat.lt_or_ge (a + 1) s.length with hl | hl
    · rw [byteAt_ext hl] at h2; exact g4 ⟨h1, h2⟩
    · have e2 : a + 1 = s.length := by omega
      have : byteAt (s ++ 10 :: x) (a + 1) = 10 := by rw [e2]; simp [byteAt]
      omega
  rw [if_neg g4']
  split at e
  · next h =>
    rw [if_pos h]
    split at e
    · cases e
    · next l k hl => rw [lit_ext hl (by rw [List.length_append]; omega)]; exact e
  next g5 =>
  rw [if_neg g5]
  split at e
  · next h =>
    rw [if_pos h, List.drop_append_of_le_length (by omega)]
    split at e
    · cases e
    · next c k hc => rw [parsed_ext hc]; exact e
  · cases e
theorem index_ext {l y : List UInt8} {c : UInt8} {n : Nat} (h : Lib.indexByte l c = n) : Lib.indexByte (l ++ y) c = n := by
  induction l generalizing n with
  | nil => simp [Lib.indexByte] at h
  | cons b l ih =>
    rw [List.cons_append]
    unfold Lib.indexByte at h ⊢
    split at h
    · next hb => rw [if_pos hb]; exact h
    next hb =>
    rw [if_neg hb]
    split at h
    · omega
    next h2 =>
    have := Lib.indexByte_ge l c
    have h2' : Lib.indexByte l c ≠ -1 := by simpa using h2
    obtain ⟨m, rfl⟩ : ∃ m, n = m + 1 := ⟨n - 1, by omega⟩
    have h3 := ih (n := m) (by omega)
    rw [h3]
    have : ¬ ((m : Int) == -1) = true := by simp
    rw [if_neg this]
    omega
theorem index_end {l y : List UInt8} {c : UInt8} (h : Lib.indexByte l c = -1) : Lib.indexByte (l ++ c :: y) c = (l.length : Nat) := by
  induction l with
  | nil => simp [Lib.indexByte]
  | cons b l ih =>
    rw [List.cons_append]
    unfold Lib.indexByte at h ⊢
    split at h
    · cases h
    next hb =>
    rw [if_neg hb]
    split at h
    · next h2 =>
      have h3 := ih (eq_of_beq h2)
      rw [h3]
      have : ¬ (((l.length : Nat) : Int) == -1) = true := by simp
      rw [if_neg this]
      simp
    · next h2 => have := Lib.indexByte_ge l c; omega
theorem note_ext {s x : List UInt8} {a : Nat} (ha : a ≤ s.length) : noteEnd (s ++ 10 :: x) a = noteEnd s a := by
  unfold noteEnd
  rw [List.drop_append_of_le_length ha]
  rcases Int.lt_or_le (Lib.indexByte (s.drop a) 10) 0 with h | h
  · have h1 : Lib.indexByte (s.drop a) 10 = -1 := by have := Lib.indexByte_ge (s.drop a) 10; omega
    rw [index_end h1, h1, if_pos (by omega), if_neg (by decide), List.length_drop]
    simp
    omega
  · obtain ⟨n, hn⟩ := Int.eq_ofNat_of_zero_le h
    rw [index_ext hn, hn, if_pos (by omega), if_pos (by omega)]
end Go.Proofs.YteohgaheockepaaDoor
namespace Go.Proofs.YteohgaheockepaaDoor
open Go.RowKit

/-- From q on stand in t the bytes that stand in s from p on, up to N. -/
def Agr (s t : List UInt8) (p q N : Nat) : Prop := ∀ j, p + j < N → byteAt t (q + j) = byteAt s (p + j)
theorem Agr.step {s t : List UInt8} {p q N : Nat} (h : Agr s t p q N) (k : Nat) : Agr s t (p + k) (q + k) N := fun j hj => by
  have := h (k + j) (by omega)
  rwa [← Nat.add_assoc, ← Nat.add_assoc] at this
theorem Agr.mono {s t : List UInt8} {p q N M : Nat} (h : Agr s t p q N) (hM : M ≤ N) : Agr s t p q M := fun j hj => h j (by omega)
theorem Agr.here {s t : List UInt8} {p q N : Nat} (h : Agr s t p q N) (hp : p < N) : byteAt t q = byteAt s p := by simpa using h 0 (by omega)
theorem Agr.next {s t : List UInt8} {p q N : Nat} (h : Agr s t p q N) (hp : p + 1 < N) : byteAt t (q + 1) = byteAt s (p + 1) := h 1 hp
theorem Agr.upto {s t : List UInt8} {p q N n : Nat} (h : Agr s t p q N) (hn : p ≤ n) : Agr s t n (q + (n - p)) N := by
  have := h.step (n - p)
  rwa [Nat.add_sub_cancel' hn] at this
theorem low_agr {s t : List UInt8} {h a b c n : Nat} (e : lowAt s h a = .inr (c, n)) (g : Agr s t a b n) : lowAt t h b = .inr (c, b + (n - a)) := by
  unfold lowAt at *
  split at e
  · cases e
  · next hd =>
    simp at e
    rw [g.here (by omega), if_neg hd, e.1, ← e.2]
    simp
theorem hex_agr {s t : List UInt8} {a b c n : Nat} (e : hexAt s a = .inr (c, n)) (g : Agr s t a b n) : hexAt t b = .inr (c, b + (n - a)) := by
  have hb := hexAt_bd e
  unfold hexAt at *
  split at e
  · cases e
  · next hd =>
    rw [g.here (by omega), if_neg hd, low_agr e (g.step 1)]
    congr 2
    omega
theorem esc_agr {s t : List UInt8} {a b c n : Nat} (e : escAt s a = .inr (c, n)) (g : Agr s t a b n) : escAt t b = .inr (c, b + (n - a)) := by
  have hb := escAt_bd e
  unfold escAt at *
  rw [g.here (by omega)]
  split at e
  · next h => rw [if_pos h]; simp at e ⊢; omega
  next g1 =>
  rw [if_neg g1]
  split at e
  · next h => rw [if_pos h]; simp at e ⊢; omega
  next g2 =>
  rw [if_neg g2]
  split at e
  · next h => rw [if_pos h]; simp at e ⊢; omega
  next g3 =>
  rw [if_neg g3]
  split at e
  · next h => rw [if_pos h]; simp at e ⊢; omega
  next g4 =>
  rw [if_neg g4]
  split at e
  · next h =>
    have b2 := hexAt_bd e
    rw [if_pos h, hex_agr e (g.step 1)]
    congr 2
    omega
  · cases e
theorem sgn_agr {s t : List UInt8} {a b c n : Nat} (e : sgnAt s a = .inr (c, n)) (g : Agr s t a b n) : sgnAt t b = .inr (c, b + (n - a)) := by
  have hb := sgnAt_bd e
  unfold sgnAt at *
  rw [g.here (by omega)]
  split at e
  · next h =>
    have b2 := escAt_bd e
    rw [if_pos h, esc_agr e (g.step 1)]
    congr 2
    omega
  next g1 =>
  rw [if_neg g1]
  split at e
  · cases e
  · next h => rw [if_neg h]; simp at e ⊢; omega
theorem hi_agr {s t : List UInt8} {lo a b c n : Nat} (e : hiAt s lo a = .inr (c, n)) (han : a ≤ n) (g : Agr s t a b (n + 1)) : hiAt t lo b = .inr (c, b + (n - a)) := by
  unfold hiAt at *
  rw [g.here (by omega)]
  split at e
  · next h =>
    have b2 := sgnAt_bd e
    rw [if_pos h, sgn_agr e ((g.step 1).mono (by omega))]
    congr 2
    omega
  · next h => rw [if_neg h]; simp at e ⊢; omega
theorem mem_agr {s t : List UInt8} {a b n : Nat} {m : BitVec 256} (e : memAt s a = .inr (m, n)) (g : Agr s t a b (n + 1)) : memAt t b = .inr (m, b + (n - a)) := by
  unfold memAt at *
  split at e
  · cases e
  next lo p h1 =>
  have b1 := sgnAt_bd h1
  split at e
  · cases e
  next hi q h2 =>
  have b2 := hiAt_bd (by omega) (by omega) h2
  split at e
  · cases e
  next h3 =>
  simp at e
  obtain ⟨e1, e2⟩ := e
  subst e1 e2
  rw [sgn_agr h1 (g.mono (by omega))]
  simp only
  rw [hi_agr h2 (by omega) (g.upto (by omega))]
  simp only
  rw [if_neg h3]
  congr 2
  omega
theorem mems_agr {s t : List UInt8} : ∀ {f g a b n : Nat} {c m : BitVec 256}, memsAt s f a c = .inr (m, n) → Agr s t a b n → n ≤ g + a → memsAt t g b c = .inr (m, b + (n - a)) := by
  intro f
  induction f with
  | zero => intro g a b n c m h; cases h
  | succ f ih =>
    intro g a b n c m h ha hg
    have hb := memsAt_bd h
    obtain ⟨g, rfl⟩ : ∃ j, g = j + 1 := ⟨g - 1, by omega⟩
    rw [memsAt] at h ⊢
    rw [ha.here (by omega)]
    split at h
    · next h93 => rw [if_pos h93]; simp at h ⊢; exact ⟨h.1, by omega⟩
    next h93 =>
    rw [if_neg h93]
    split at h
    · cases h
    next m' n' e =>
    have b1 := memAt_bd e
    have b2 := memsAt_bd h
    rw [mem_agr e (ha.mono (by omega))]
    simp only
    rw [ih h (ha.upto (by omega)) (by omega)]
    congr 2
    omega
theorem agr_len {s t : List UInt8} {N : Nat} (h : Agr s t 0 0 N) (h0 : 0 < N) (hN : N ≤ s.length) : N ≤ t.length := by
  have h1 := h (N - 1) (by omega)
  rw [Nat.zero_add] at h1
  have h2 := byteAt_bd (s := s) (a := N - 1) (by omega)
  have := byteAt_in (s := t) (a := N - 1) (by omega)
  omega
theorem parsed_agr {s t : List UInt8} {c : BitVec 256} {n : Nat} (h : parsed s = .inr (c, n)) (g : Agr s t 0 0 n) : parsed t = .inr (c, n) := by
  have hb := parsed_bd h
  have hl := agr_len g (by omega) hb.2
  unfold parsed at *
  rw [g.here (by omega), g.next (by omega)]
  split at h
  · next h0 =>
    rw [if_pos h0]
    split at h
    · next h1 =>
      rw [if_pos h1]
      split at h
      · cases h
      · next e =>
        simp at h
        obtain ⟨h2, h3⟩ := h
        subst h2 h3
        have b2 := memsAt_bd e
        rw [mems_agr (g := t.length + 1) e (g.step 2) (by omega)]
        simp only
        congr 2
        omega
    · next h1 =>
      have b2 := memsAt_bd h
      rw [if_neg h1, mems_agr (g := t.length + 1) h (g.step 1) (by omega)]
      congr 2
      omega
  · cases h
theorem lesc_agr {s t : List UInt8} {a b c n : Nat} (e : lescAt s a = .inr (c, n)) (g : Agr s t a b n) : lescAt t b = .inr (c, b + (n - a)) := by
  have hb := lescAt_bd e
  unfold lescAt at *
  rw [g.here (by omega)]
  split at e
  · next h => rw [if_pos h]; simp at e ⊢; omega
  next g1 =>
  rw [if_neg g1]
  split at e
  · next h => rw [if_pos h]; simp at e ⊢; omega
  next g2 =>
  rw [if_neg g2]
  split at e
  · next h => rw [if_pos h]; simp at e ⊢; omega
  next g3 =>
  rw [if_neg g3]
  split at e
  · next h => rw [if_pos h]; simp at e ⊢; omega
  next g4 =>
  rw [if_neg g4]
  split at e
  · next h =>
    have b2 := hexAt_bd e
    rw [if_pos h, hex_agr e (g.step 1)]
    congr 2
    omega
  · cases e
theorem lch_agr {s t : List UInt8} {a b c n : Nat} (e : lchAt s a = .inr (c, n)) (g : Agr s t a b n) : lchAt t b = .inr (c, b + (n - a)) := by
  have hb := lchAt_bd e
  unfold lchAt at *
  rw [g.here (by omega)]
  split at e
  · next h =>
    have b2 := lescAt_bd e
    rw [if_pos h, lesc_agr e (g.step 1)]
    congr 2
    omega
  next g1 =>
  rw [if_neg g1]
  split at e
  · cases e
  · next h => rw [if_neg h]; simp at e ⊢; omega
theorem lit_agr {s t : List UInt8} {q st st' : Nat} : ∀ {f g a b n : Nat} {l m : List UInt8}, litGo s q st f a l = .inr (m, n) → Agr s t a b n → n ≤ g + a → litGo t q st' g b l = .inr (m, b + (n - a)) := by
  intro f
  induction f with
  | zero => intro g a b n l m h; cases h
  | succ f ih =>
    intro g a b n l m h ha hg
    have hb := litGo_bd h
    obtain ⟨g, rfl⟩ : ∃ j, g = j + 1 := ⟨g - 1, by omega⟩
    have hbt : b < t.length := byteAt_in (by rw [ha.here (by omega)]; exact byteAt_bd (by omega))
    rw [litGo] at h ⊢
    rw [if_neg (by omega), ha.here (by omega)]
    split at h
    · cases h
    next hl =>
    split at h
    · next hq => rw [if_pos hq]; simp at h ⊢; exact ⟨h.1, by omega⟩
    next hq =>
    rw [if_neg hq]
    split at h
    · cases h
    next c k e =>
    have b1 := lchAt_bd e
    split at h
    · cases h
    next h5 =>
    have b2 := litGo_bd h
    rw [lch_agr e (ha.mono (by omega))]
    simp only
    rw [if_neg h5, ih h (ha.upto (by omega)) (by omega)]
    congr 2
    omega
theorem drop_byte (s : List UInt8) (a j : Nat) : byteAt (s.drop a) j = byteAt s (a + j) := by
  unfold byteAt; rw [List.getElem?_drop]
/-- No byte behind the name continues it. -/
def Ends (t : List UInt8) (q n : Nat) : Prop := cont n (byteAt t (q + n)) = false
theorem name_agr {s t : List UInt8} {a b : Nat} (g : Agr s t a b (a + nameLen s a)) (h : Ends t b (nameLen s a)) : nameLen t b = nameLen s a := by
  apply nameLen_is
  · intro j hj
    rw [g j (by omega)]
    exact (nameLen_spec s a).1 j hj
  · exact h
theorem take_agr {s t : List UInt8} {a b n : Nat} (g : Agr s t a b (a + n)) (hn : a + n ≤ s.length) : (t.drop b).take n = (s.drop a).take n := by
  apply List.ext_getElem?
  intro i
  rw [List.getElem?_take, List.getElem?_take, List.getElem?_drop, List.getElem?_drop]
  split
  · next hi =>
    have h := g i (by omega)
    have h1 := byteAt_bd (s := s) (a := a + i) (by omega)
    have h2 := byteAt_in (s := t) (a := b + i) (by omega)
    rw [byteAt_lt h2, byteAt_lt (show a + i < s.length by omega)] at h
    rw [List.getElem?_eq_getElem h2, List.getElem?_eq_getElem (show a + i < s.length by omega), UInt8.toNat_inj.1 h]
  · rfl
/-- A token is read alike wherever the same bytes stand; behind a name stands nothing that goes on with it. -/
theorem tok_agr {s t : List UInt8} {a b n : Nat} {k : Tok} (ha : a < s.length) (e : tokAt s a = .inr (k, n)) (g : Agr s t a b n) (hend : k.kind = 1 → Ends t b (n - a)) :
    tokAt t b = .inr (⟨k.kind, k.text, k.cls, b⟩, b + (n - a)) := by
  have hb := tokAt_bd ha e
  have hin := nameLen_in s a (by omega)
  have hbt : b < t.length := byteAt_in (by rw [g.here (by omega)]; exact byteAt_bd (by omega))
  have hn0 : nameLen s a = 0 → nameLen t b = 0 := by
    intro h0
    apply nameLen_is
    · intro j hj; omega
    · have := (nameLen_spec s a).2
      rw [h0] at this
      rw [Nat.add_zero, g.here (by omega)]
      exact this
  unfold tokAt at *
  split at e
  · cases e
  next g1 =>
  split at e
  · next h =>
    simp at e
    obtain ⟨e1, e2⟩ := e
    subst e1 e2
    have hE := hend rfl
    rw [Nat.add_sub_cancel_left] at hE
    rw [name_agr g hE, if_neg g1, if_pos h, take_agr g hin]
    simp
  next g2 =>
  have h0 := hn0 (by omega)
  rw [h0, if_neg (by decide), if_neg (by decide), g.here (by omega)]
  split at e
  · next h =>
    simp at e
    obtain ⟨e1, e2⟩ := e
    subst e1 e2
    rw [if_pos h]
    simp
  next g3 =>
  rw [if_neg g3]
  split at e
  · next h =>
    simp at e
    obtain ⟨e1, e2⟩ := e
    subst e1 e2
    rw [if_pos ⟨h.1, by rw [g.next (by omega)]; exact h.2⟩]
    simp
  next g4 =>
  split at e
  · next h =>
    rw [if_neg (fun h4 => by omega), if_pos h]
    split at e
    · cases e
    · next l m hl =>
      simp at e
      obtain ⟨e1, e2⟩ := e
      subst e1 e2
      have b2 := litGo_bd hl
      have hm : b + (m - a) ≤ t.length := by
        have h1 := g (m - a - 1) (by omega)
        have h2 := byteAt_bd (s := s) (a := a + (m - a - 1)) (by omega)
        have := byteAt_in (s := t) (a := b + (m - a - 1)) (by omega)
        omega
      rw [lit_agr (st' := b) (g := t.length + 1) hl (g.step 1) (by omega)]
      simp only
      congr 2
      omega
  next g5 =>
  split at e
  · next h =>
    rw [if_neg (fun h4 => by omega), if_neg g5, if_pos h]
    split at e
    · cases e
    · next c m hc =>
      simp at e
      obtain ⟨e1, e2⟩ := e
      subst e1 e2
      rw [parsed_agr (t := t.drop b) hc (fun j hj => by rw [Nat.zero_add, drop_byte, drop_byte]; exact g j (by omega))]
      simp
  · cases e
end Go.Proofs.YteohgaheockepaaDoor
