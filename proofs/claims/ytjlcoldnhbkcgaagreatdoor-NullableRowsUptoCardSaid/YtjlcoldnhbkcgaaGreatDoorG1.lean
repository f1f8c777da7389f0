/- Cutting a source into tokens: plain facts. | What is read well is read alike with more behind it: plain. -/
import Derived.Test.YtjlcoldnhbkcgaaGreatDoorG0
namespace Go.Proofs.YtjlcoldnhbkcgaaGreatDoor
open Go.RowKit

/-- Bytes as a string. -/
def mkS (l : List UInt8) : ByteArray := ⟨l.toArray⟩
theorem mkS_size (l : List UInt8) : (mkS l).size = l.length := by simp [mkS, ByteArray.size]
theorem mkS_data (l : List UInt8) : (mkS l).data.toList = l := by simp [mkS]
/-- A token. -/
structure Tok where
  kind : Nat
  text : List UInt8
  cls : BitVec 256
  pos : Nat
/-- Letters, digits. -/
def isLet (b : Nat) : Bool := (65 ≤ b && b ≤ 90) || (97 ≤ b && b ≤ 122) || b == 95
def isDig (b : Nat) : Bool := 48 ≤ b && b ≤ 57
/-- May that byte be the i-th one of a name? -/
def cont (i b : Nat) : Bool := isLet b || (i != 0 && isDig b)
/-- How many bytes of a name stand at a place, from the i-th one on. -/
def nameGo (s : List UInt8) (a : Nat) : Nat → Nat → Nat
  | 0, i => i
  | f + 1, i => if cont i (byteAt s (a + i)) then nameGo s a f (i + 1) else i
def nameLen (s : List UInt8) (a : Nat) : Nat := nameGo s a (s.length + 1) 0
/-- The signs. -/
def isSign (b : Nat) : Bool := b == 47 || b == 38 || b == 33 || b == 63 || b == 42 || b == 43 || b == 40 || b == 41 || b == 46
/-- What stands behind a backslash in a literal. -/
def lescAt (s : List UInt8) (a : Nat) : Got Nat :=
  if byteAt s a = 110 then .inr (10, a + 1) else if byteAt s a = 114 then .inr (13, a + 1) else if byteAt s a = 116 then .inr (9, a + 1)
  else if byteAt s a = 92 ∨ byteAt s a = 34 ∨ byteAt s a = 39 then .inr (byteAt s a, a + 1) else if byteAt s a = 120 then hexAt s (a + 1) else .inl (wrongAt s a)
/-- A byte of a literal. -/
def lchAt (s : List UInt8) (a : Nat) : Got Nat :=
  if byteAt s a = 92 then lescAt s (a + 1) else if byteAt s a < 32 ∨ 126 < byteAt s a then .inl (4, a) else .inr (byteAt s a, a + 1)
/-- The rest of a literal that began at st with the quote q. -/
def litGo (s : List UInt8) (q st : Nat) : Nat → Nat → List UInt8 → Got (List UInt8)
  | 0, a, _ => .inl (3, a)
  | f + 1, a, l => if s.length ≤ a then .inl (3, s.length) else if byteAt s a = q then .inr (l, a + 1) else match lchAt s a with
    | .inl e => .inl e
    | .inr (c, n) => if l.length = 255 then .inl (2, st) else litGo s q st f n (l ++ [c.toUInt8])
/-- A token at a place where no blank stands. -/
def tokAt (s : List UInt8) (a : Nat) : Got Tok :=
  if 32 < nameLen s a then .inl (2, a)
  else if 0 < nameLen s a then .inr (⟨1, (s.drop a).take (nameLen s a), 0, a⟩, a + nameLen s a)
  else if isSign (byteAt s a) then .inr (⟨5, [(byteAt s a).toUInt8], 0, a⟩, a + 1)
  else if byteAt s a = 60 ∧ byteAt s (a + 1) = 45 then .inr (⟨2, [], 0, a⟩, a + 2)
  else if byteAt s a = 39 ∨ byteAt s a = 34 then match litGo s (byteAt s a) a (s.length + 1) (a + 1) [] with
    | .inl e => .inl e
    | .inr (l, n) => .inr (⟨3, l, 0, a⟩, n)
  else if byteAt s a = 91 then match parsed (s.drop a) with
    | .inl (e, n) => .inl (e, a + n)
    | .inr (c, n) => .inr (⟨4, [], c, a⟩, a + n)
  else .inl (4, a)
/-- Where a note ends. -/
def noteEnd (s : List UInt8) (a : Nat) : Nat := if 0 ≤ Lib.indexByte (s.drop a) 10 then a + (Lib.indexByte (s.drop a) 10).toNat else s.length
def isBlank (b : Nat) : Bool := b == 9 || b == 10 || b == 13 || b == 32
/-- The tokens from a place on. -/
def toksGo (s : List UInt8) : Nat → Nat → List Tok → (Nat × Nat) ⊕ List Tok
  | 0, a, _ => .inl (3, a)
  | f + 1, a, l => if s.length ≤ a then .inr (l ++ [⟨6, [], 0, s.length⟩])
    else if byteAt s a = 35 then toksGo s f (noteEnd s a) l
    else if isBlank (byteAt s a) then toksGo s f (a + 1) l
    else match tokAt s a with
      | .inl e => .inl e
      | .inr (t, n) => toksGo s f n (l ++ [t])
/-- The tokens of a source of at most 8192 bytes. -/
def toks (s : List UInt8) : (Nat × Nat) ⊕ List Tok := toksGo s (2 * s.length + 2) 0 []

theorem indexByte_none {l : List UInt8} {c : UInt8} : Lib.indexByte l c = -1 → ∀ i : Nat, l[i]? ≠ some c := by
  induction l with
  | nil => intro _ i; simp
  | cons b l ih =>
    intro h i
    unfold Lib.indexByte at h
    split at h
    · cases h
    · split at h
      · next hb h2 =>
        have h3 := ih (eq_of_beq h2)
        cases i with
        | zero => simp; intro e; subst e; simp at hb
        | succ i => simpa using h3 i
      · have := Lib.indexByte_ge l c; omega
theorem indexByte_some {l : List UInt8} {c : UInt8} {n : Nat} : Lib.indexByte l c = n → l[n]? = some c ∧ ∀ i : Nat, i < n → l[i]? ≠ some c := by
  induction l generalizing n with
  | nil => intro h; simp [Lib.indexByte] at h
  | cons b l ih =>
    intro h
    unfold Lib.indexByte at h
    split at h
    · next hb =>
      obtain rfl : n = 0 := by omega
      exact ⟨by simpa using eq_of_beq hb, fun i hi => by omega⟩
    · split at h
      · omega
      · next hb h2 =>
        have := Lib.indexByte_ge l c
        have h2' : Lib.indexByte l c ≠ -1 := by simpa using h2
        obtain ⟨m, rfl⟩ : ∃ m, n = m + 1 := ⟨n - 1, by omega⟩
        have h3 := ih (n := m) (by omega)
        refine ⟨by simpa using h3.1, ?_⟩
        intro i hi
        cases i with
        | zero => simp; intro e; subst e; simp at hb
        | succ i => simpa using h3.2 i (by omega)
theorem noteEnd_bd {s : List UInt8} {a : Nat} (h : a < s.length) (hb : byteAt s a ≠ 10) : a < noteEnd s a ∧ noteEnd s a ≤ s.length := by
  unfold noteEnd
  split
  · next h0 =>
    obtain ⟨n, hn⟩ := Int.eq_ofNat_of_zero_le h0
    rw [hn]
    have h1 := (indexByte_some hn).1
    have h2 : n ≠ 0 := by
      rintro rfl
      apply hb
      rw [List.getElem?_drop, Nat.add_zero] at h1
      rw [byteAt, h1]
      rfl
    have h3 : n < (s.drop a).length := by
      rcases Nat.lt_or_ge n (s.drop a).length with h | h
      · exact h
      · rw [List.getElem?_eq_none h] at h1; cases h1
    simp at h3
    simp
    omega
  · omega
theorem cont_in {i b : Nat} (h : cont i b = true) : b < 256 := by
  simp [cont, isLet, isDig] at h; omega
theorem nameGo_spec (s : List UInt8) (a : Nat) : ∀ (f i : Nat), i ≤ nameGo s a f i ∧ (∀ j, i ≤ j → j < nameGo s a f i → cont j (byteAt s (a + j)) = true) ∧ (s.length + 1 ≤ a + i + f → cont (nameGo s a f i) (byteAt s (a + nameGo s a f i)) = false) := by
  intro f
  induction f with
  | zero =>
    intro i
    refine ⟨Nat.le_refl _, fun j h1 h2 => by rw [nameGo] at h2; omega, fun h => ?_⟩
    rw [nameGo, byteAt_ge (by omega)]
    simp [cont, isLet, isDig]
  | succ f ih =>
    intro i
    rw [nameGo]
    split
    · next hc =>
      have h := ih (i + 1)
      refine ⟨by omega, fun j h1 h2 => ?_, fun h4 => h.2.2 (by omega)⟩
      by_cases e : j = i
      · subst e; exact hc
      · exact h.2.1 j (by omega) h2
    · next hc => exact ⟨Nat.le_refl _, fun j h1 h2 => by omega, fun _ => by simpa using hc⟩
theorem nameLen_spec (s : List UInt8) (a : Nat) : (∀ j, j < nameLen s a → cont j (byteAt s (a + j)) = true) ∧ cont (nameLen s a) (byteAt s (a + nameLen s a)) = false := by
  have h := nameGo_spec s a (s.length + 1) 0
  exact ⟨fun j hj => h.2.1 j (by omega) hj, h.2.2 (by omega)⟩
/-- A length that a name has is the name's. -/
theorem nameLen_is {s : List UInt8} {a n : Nat} (h1 : ∀ j, j < n → cont j (byteAt s (a + j)) = true) (h2 : cont n (byteAt s (a + n)) = false) : nameLen s a = n := by
  have h := nameLen_spec s a
  rcases Nat.lt_trichotomy (nameLen s a) n with e | e | e
  · have := h1 _ e; rw [h.2] at this; cases this
  · exact e
  · have := h.1 _ e; rw [h2] at this; cases this
theorem nameLen_in (s : List UInt8) (a : Nat) (ha : a ≤ s.length) : a + nameLen s a ≤ s.length := by
  have h := (nameLen_spec s a).1
  rcases Nat.eq_zero_or_pos (nameLen s a) with e | e
  · omega
  · have := byteAt_in (cont_in (h (nameLen s a - 1) (by omega))); omega
theorem lescAt_bd {s : List UInt8} {a c n : Nat} (e : lescAt s a = .inr (c, n)) : c < 256 ∧ a < n ∧ n ≤ s.length := by
  unfold lescAt at e
  have hb := @byteAt_in s a
  split at e
  · simp at e; omega
  split at e
  · simp at e; omega
  split at e
  · simp at e; omega
  split at e
  · simp at e; omega
  split at e
  · have := hexAt_bd e; omega
  · cases e
theorem lchAt_bd {s : List UInt8} {a c n : Nat} (e : lchAt s a = .inr (c, n)) : c < 256 ∧ a < n ∧ n ≤ s.length := by
  unfold lchAt at e
  have hb := @byteAt_in s a
  split at e
  · have := lescAt_bd e; omega
  split at e
  · cases e
  · simp at e; omega
theorem litGo_bd {s : List UInt8} {q st : Nat} : ∀ {f a n : Nat} {l m : List UInt8}, litGo s q st f a l = .inr (m, n) → a < n ∧ n ≤ s.length := by
  intro f
  induction f with
  | zero => intro a n l m h; cases h
  | succ f ih =>
    intro a n l m h
    rw [litGo] at h
    split at h
    · cases h
    split at h
    · simp at h; omega
    split at h
    · cases h
    · next c k e =>
      have := lchAt_bd e
      split at h
      · cases h
      · have := ih h; omega
theorem parsed_bd {s : List UInt8} {c : BitVec 256} {n : Nat} (h : parsed s = .inr (c, n)) : 1 < n ∧ n ≤ s.length := by
  unfold parsed at h
  split at h
  · split at h
    · split at h
      · cases h
      · next e => simp at h; have := memsAt_bd e; omega
    · have := memsAt_bd h; omega
  · cases h
theorem tokAt_bd {s : List UInt8} {a n : Nat} {t : Tok} (ha : a < s.length) (e : tokAt s a = .inr (t, n)) : a < n ∧ n ≤ s.length ∧ t.pos = a := by
  unfold tokAt at e
  have hn := nameLen_in s a (by omega)
  split at e
  · cases e
  split at e
  · simp at e; obtain ⟨e1, e2⟩ := e; subst e1; simp; omega
  split at e
  · simp at e; obtain ⟨e1, e2⟩ := e; subst e1; simp; omega
  split at e
  · next h => have := byteAt_in (s := s) (a := a + 1) (by omega); simp at e; obtain ⟨e1, e2⟩ := e; subst e1; simp; omega
  split at e
  · split at e
    · cases e
    · next l m h => have := litGo_bd h; simp at e; obtain ⟨e1, e2⟩ := e; subst e1; simp; omega
  split at e
  · split at e
    · cases e
    · next c m h => have := parsed_bd h; simp at this; simp at e; obtain ⟨e1, e2⟩ := e; subst e1; simp; omega
  · cases e
theorem wrongAt_le (s : List UInt8) (a : Nat) : (wrongAt s a).2 ≤ s.length := by
  unfold wrongAt; split <;> simp <;> omega
theorem wrong_le {s : List UInt8} {a e n : Nat} (h : wrongAt s a = (e, n)) : n ≤ s.length := by have := wrongAt_le s a; rw [h] at this; exact this
theorem lowAt_le {s : List UInt8} {h a e n : Nat} (g : lowAt s h a = .inl (e, n)) : n ≤ s.length := by
  unfold lowAt at g
  split at g
  · exact wrong_le (Sum.inl.inj g)
  · cases g
theorem hexAt_le {s : List UInt8} {a e n : Nat} (g : hexAt s a = .inl (e, n)) : n ≤ s.length := by
  unfold hexAt at g
  split at g
  · exact wrong_le (Sum.inl.inj g)
  · exact lowAt_le g
theorem escAt_le {s : List UInt8} {a e n : Nat} (g : escAt s a = .inl (e, n)) : n ≤ s.length := by
  unfold escAt at g
  split at g
  · cases g
  split at g
  · cases g
  split at g
  · cases g
  split at g
  · cases g
  split at g
  · exact hexAt_le g
  · exact wrong_le (Sum.inl.inj g)
theorem sgnAt_le {s : List UInt8} {a e n : Nat} (g : sgnAt s a = .inl (e, n)) : n ≤ s.length := by
  unfold sgnAt at g
  split at g
  · exact escAt_le g
  split at g
  · exact wrong_le (Sum.inl.inj g)
  · cases g
theorem memAt_le {s : List UInt8} {a e n : Nat} (ha : a ≤ s.length) (g : memAt s a = .inl (e, n)) : n ≤ s.length := by
  unfold memAt at g
  split at g
  · next h => rw [Sum.inl.inj g] at h; exact sgnAt_le h
  · split at g
    · next h =>
      rw [Sum.inl.inj g] at h
      unfold hiAt at h
      split at h
      · exact sgnAt_le h
      · cases h
    · split at g
      · simp at g; omega
      · cases g
theorem memsAt_le {s : List UInt8} : ∀ {f a e n : Nat} {c : BitVec 256}, a ≤ s.length → memsAt s f a c = .inl (e, n) → n ≤ s.length := by
  intro f
  induction f with
  | zero => intro a e n c ha g; simp [memsAt] at g; omega
  | succ f ih =>
    intro a e n c ha g
    rw [memsAt] at g
    split at g
    · cases g
    · split at g
      · next h => rw [Sum.inl.inj g] at h; exact memAt_le ha h
      · next h => exact ih (memAt_bd h).2 g
theorem parsed_le {s : List UInt8} {e n : Nat} (g : parsed s = .inl (e, n)) : n ≤ s.length := by
  unfold parsed at g
  split at g
  · next h0 =>
    have l0 := byteAt_in (s := s) (a := 0) (by omega)
    split at g
    · next h1 =>
      have l1 := byteAt_in (s := s) (a := 1) (by omega)
      split at g
      · next h => rw [Sum.inl.inj g] at h; exact memsAt_le (by omega) h
      · cases g
    · exact memsAt_le (by omega) g
  · exact wrong_le (Sum.inl.inj g)
end Go.Proofs.YtjlcoldnhbkcgaaGreatDoor
namespace Go.Proofs.YtjlcoldnhbkcgaaGreatDoor
open Go.RowKit

theorem byteAt_ext {s x : List UInt8} {a : Nat} (h : a < s.length) : byteAt (s ++ x) a = byteAt s a := by
  unfold byteAt; rw [List.getElem?_append_left h]
theorem low_ext {s x : List UInt8} {h a c n : Nat} (e : lowAt s h a = .inr (c, n)) : lowAt (s ++ x) h a = .inr (c, n) := by
  unfold lowAt at *
  split at e
  · cases e
  · next hd => rw [byteAt_ext (byteAt_in (digV_in hd)), if_neg hd]; exact e
theorem hex_ext {s x : List UInt8} {a c n : Nat} (e : hexAt s a = .inr (c, n)) : hexAt (s ++ x) a = .inr (c, n) := by
  unfold hexAt at *
  split at e
  · cases e
  · next hd => rw [byteAt_ext (byteAt_in (digV_in hd)), if_neg hd]; exact low_ext e
theorem esc_ext {s x : List UInt8} {a c n : Nat} (e : escAt s a = .inr (c, n)) : escAt (s ++ x) a = .inr (c, n) := by
  have hb := escAt_bd e
  unfold escAt at *
  rw [byteAt_ext (by omega)]
  split at e
  · next h => rw [if_pos h]; exact e
  next g1 =>
  rw [if_neg g1]
  split at e
  · next h => rw [if_pos h]; exact e
  next g2 =>
  rw [if_neg g2]
  split at e
  · next h => rw [if_pos h]; exact e
  next g3 =>
  rw [if_neg g3]
  split at e
  · next h => rw [if_pos h]; exact e
  next g4 =>
  rw [if_neg g4]
  split at e
  · next h => rw [if_pos h]; exact hex_ext e
  · cases e
theorem sgn_ext {s x : List UInt8} {a c n : Nat} (e : sgnAt s a = .inr (c, n)) : sgnAt (s ++ x) a = .inr (c, n) := by
  have hb := sgnAt_bd e
  unfold sgnAt at *
  rw [byteAt_ext (by omega)]
  split at e
  · next h => rw [if_pos h]; exact esc_ext e
  next g1 =>
  rw [if_neg g1]
  split at e
  · cases e
  · next h => rw [if_neg h]; exact e
theorem hi_ext {s x : List UInt8} {lo a c n : Nat} (ha : a < s.length) (e : hiAt s lo a = .inr (c, n)) : hiAt (s ++ x) lo a = .inr (c, n) := by
  unfold hiAt at *
  rw [byteAt_ext ha]
  split at e
  · next h => rw [if_pos h]; exact sgn_ext e
  · next h => rw [if_neg h]; exact e
theorem mem_ext {s x : List UInt8} {a n : Nat} {m : BitVec 256} (e : memAt s a = .inr (m, n)) (hn : n < s.length) : memAt (s ++ x) a = .inr (m, n) := by
  unfold memAt at *
  split at e
  · cases e
  next lo p h1 =>
  have b1 := sgnAt_bd h1
  rw [sgn_ext h1]
  simp only
  split at e
  · cases e
  next hi q h2 =>
  have b2 := hiAt_bd (by omega) (by omega) h2
  split at e
  · cases e
  next h3 =>
  simp at e
  rw [hi_ext (by omega) h2]
  simp only
  rw [if_neg h3, e.1, e.2]
theorem mems_ext {s x : List UInt8} : ∀ {f g a n : Nat} {c m : BitVec 256}, memsAt s f a c = .inr (m, n) → f ≤ g → memsAt (s ++ x) g a c = .inr (m, n) := by
  intro f
  induction f with
  | zero => intro g a n c m h; cases h
  | succ f ih =>
    intro g a n c m h hg
    obtain ⟨g, rfl⟩ : ∃ j, g = j + 1 := ⟨g - 1, by omega⟩
    rw [memsAt] at h ⊢
    split at h
    · next h93 =>
      have := byteAt_in (s := s) (a := a) (by omega)
      rw [byteAt_ext this, if_pos h93]
      exact h
    next h93 =>
    split at h
    · cases h
    next m' n' e =>
    have b1 := memAt_bd e
    have b2 := memsAt_bd h
    rw [byteAt_ext (by omega), if_neg h93, mem_ext e (by omega)]
    simp only
    exact ih h (by omega)
theorem parsed_ext {s x : List UInt8} {c : BitVec 256} {n : Nat} (h : parsed s = .inr (c, n)) : parsed (s ++ x) = .inr (c, n) := by
  have hb := parsed_bd h
  unfold parsed at *
  rw [byteAt_ext (by omega), byteAt_ext (by omega)]
  split at h
  · next h0 =>
    rw [if_pos h0]
    split at h
    · next h1 =>
      rw [if_pos h1]
      split at h
      · cases h
      · next e =>
        rw [mems_ext e (by rw [List.length_append]; omega)]
        exact h
    · next h1 =>
      rw [if_neg h1]
      exact mems_ext h (by rw [List.length_append]; omega)
  · cases h
theorem lesc_ext {s x : List UInt8} {a c n : Nat} (e : lescAt s a = .inr (c, n)) : lescAt (s ++ x) a = .inr (c, n) := by
  have hb := lescAt_bd e
  unfold lescAt at *
  rw [byteAt_ext (by omega)]
  split at e
  · next h => rw [if_pos h]; exact e
  next g1 =>
  rw [if_neg g1]
  split at e
  · next h => rw [if_pos h]; exact e
  next g2 =>
  rw [if_neg g2]
  split at e
  · next h => rw [if_pos h]; exact e
  next g3 =>
  rw [if_neg g3]
  split at e
  · next h => rw [if_pos h]; exact e
  next g4 =>
  rw [if_neg g4]
  split at e
  · next h => rw [if_pos h]; exact hex_ext e
  · cases e
theorem lch_ext {s x : List UInt8} {a c n : Nat} (e : lchAt s a = .inr (c, n)) : lchAt (s ++ x) a = .inr (c, n) := by
  have hb := lchAt_bd e
  unfold lchAt at *
  rw [byteAt_ext (by omega)]
  split at e
  · next h => rw [if_pos h]; exact lesc_ext e
  next g1 =>
  rw [if_neg g1]
  split at e
  · cases e
  · next h => rw [if_neg h]; exact e
theorem lit_ext {s x : List UInt8} {q st : Nat} : ∀ {f g a n : Nat} {l m : List UInt8}, litGo s q st f a l = .inr (m, n) → f ≤ g → litGo (s ++ x) q st g a l = .inr (m, n) := by
  intro f
  induction f with
  | zero => intro g a n l m h; cases h
  | succ f ih =>
    intro g a n l m h hg
    obtain ⟨g, rfl⟩ : ∃ j, g = j + 1 := ⟨g - 1, by omega⟩
    rw [litGo] at h ⊢
    split at h
    · cases h
    next hl =>
    rw [if_neg (by rw [List.length_append]; omega), byteAt_ext (by omega)]
    split at h
    · next hq => rw [if_pos hq]; exact h
    next hq =>
    rw [if_neg hq]
    split at h
    · cases h
    next c k e =>
    rw [lch_ext e]
    simp only
    split at h
    · cases h
    · next h5 => rw [if_neg h5]; exact ih h (by omega)
/-- Behind a source that is read well a new line changes nothing. -/
theorem name_ext {s x : List UInt8} {a : Nat} (ha : a ≤ s.length) : nameLen (s ++ 10 :: x) a = nameLen s a := by
  have h := nameLen_spec s a
  have hin := nameLen_in s a ha
  apply nameLen_is
  · intro j hj
    have h1 := h.1 j hj
    rw [byteAt_ext (byteAt_in (cont_in h1))]
    exact h1
  · rcases Nat.lt_or_ge (a + nameLen s a) s.length with hl | hl
    · rw [byteAt_ext hl]; exact h.2
    · have e : a + nameLen s a = s.length := by omega
      have : byteAt (s ++ 10 :: x) (a + nameLen s a) = 10 := by rw [e]; simp [byteAt]
      rw [this]
      simp [cont, isLet, isDig]
theorem tok_ext {s x : List UInt8} {a n : Nat} {t : Tok} (ha : a < s.length) (e : tokAt s a = .inr (t, n)) : tokAt (s ++ 10 :: x) a = .inr (t, n) := by
  have hin := nameLen_in s a (by omega)
  unfold tokAt at *
  rw [name_ext (by omega), byteAt_ext ha]
  split at e
  · cases e
  next g1 =>
  rw [if_neg g1]
  split at e
  · next h =>
    rw [if_pos h, List.drop_append_of_le_length (by omega), List.take_append_of_le_length (by rw [List.length_drop]; omega)]
    exact e
  next g2 =>
  rw [if_neg g2]
  split at e
  · next h => rw [if_pos h]; exact e
  next g3 =>
  rw [if_neg g3]
  split at e
  · next h =>
    have h1 := byteAt_in (s := s) (a := a + 1) (by omega)
    rw [byteAt_ext h1, if_pos h]; exact e
  next g4 =>
  have g4' : ¬ (byteAt s a = 60 ∧ byteAt (s ++ 10 :: x) (a + 1) = 45) := by
    rintro ⟨h1, h2⟩
    rcases Nat.lt_or_ge (a + 1) s.length with hl | hl
    · rw [byteAt_ext hl] at h2; exact g4 ⟨h1, h2⟩
    · have e2 : a + 1 = s.length := by omega
      have : byteAt (s ++ 10 :: x) (a + 1) = 10 := by rw [e2]; simp [byteAt]
      omega
  rw [if_neg g4']
  split at e
  · next h =>
    rw [if_pos h]
    split at e
    · cases e
    · next l k hl => rw [lit_ext hl (by rw [List.length_append]; omega)]; exact e
  next g5 =>
  rw [if_neg g5]
  split at e
  · next h =>
    rw [if_pos h, List.drop_append_of_le_length (by omega)]
    split at e
    · cases e
    · next c k hc => rw [parsed_ext hc]; exact e
  · cases e
theorem index_ext {l y : List UInt8} {c : UInt8} {n : Nat} (h : Lib.indexByte l c = n) : Lib.indexByte (l ++ y) c = n := by
  induction l generalizing n with
  | nil => simp [Lib.indexByte] at h
  | cons b l ih =>
    rw [List.cons_append]
    unfold Lib.indexByte at h ⊢
    split at h
    · next hb => rw [if_pos hb]; exact h
    next hb =>
    rw [if_neg hb]
    split at h
    · omega
    next h2 =>
    have := Lib.indexByte_ge l c
    have h2' : Lib.indexByte l c ≠ -1 := by simpa using h2
    obtain ⟨m, rfl⟩ : ∃ m, n = m + 1 := ⟨n - 1, by omega⟩
    have h3 := ih (n := m) (by omega)
    rw [h3]
    have : ¬ ((m : Int) == -1) = true := by simp
    rw [if_neg this]
    omega
theorem index_end {l y : List UInt8} {c : UInt8} (h : Lib.indexByte l c = -1) : Lib.indexByte (l ++ c :: y) c = (l.length : Nat) := by
  induction l with
  | nil => simp [Lib.indexByte]
  | cons b l ih =>
    rw [List.cons_append]
    unfold Lib.indexByte at h ⊢
    split at h
    · cases h
    next hb =>
    rw [if_neg hb]
    split at h
    · next h2 =>
      have h3 := ih (eq_of_beq h2)
      rw [h3]
      have : ¬ (((l.length : Nat) : Int) == -1) = true := by simp
      rw [if_neg this]
      simp
    · next h2 => have := Lib.indexByte_ge l c; omega
theorem note_ext {s x : List UInt8} {a : Nat} (ha : a ≤ s.length) : noteEnd (s ++ 10 :: x) a = noteEnd s a := by
  unfold noteEnd
  rw [List.drop_append_of_le_length ha]
  rcases Int.lt_or_le (Lib.indexByte (s.drop a) 10) 0 with h | h
  · have h1 : Lib.indexByte (s.drop a) 10 = -1 := by have := Lib.indexByte_ge (s.drop a) 10; omega
    rw [index_end h1, h1, if_pos (by omega), if_neg (by decide), List.length_drop]
    simp
    omega
  · obtain ⟨n, hn⟩ := Int.eq_ofNat_of_zero_le h
    rw [index_ext hn, hn, if_pos (by omega), if_pos (by omega)]
end Go.Proofs.YtjlcoldnhbkcgaaGreatDoor
