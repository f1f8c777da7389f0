/- Cutting a source into tokens: plain facts. | Any tree, as it lies among the arguments or in new memory: plain. -/
import Derived.Test.YteohgaheockepaaDoorG0
namespace Go.Proofs.YteohgaheockepaaDoor
open Go.RowKit

/-- Bytes as a string. -/
def mkS (l : List UInt8) : ByteArray := ⟨l.toArray⟩
theorem mkS_size (l : List UInt8) : (mkS l).size = l.length := by simp [mkS, ByteArray.size]
theorem mkS_data (l : List UInt8) : (mkS l).data.toList = l := by simp [mkS]
/-- A token. -/
structure Tok where
  kind : Nat
  text : List UInt8
  cls : BitVec 256
  pos : Nat
/-- Letters, digits. -/
def isLet (b : Nat) : Bool := (65 ≤ b && b ≤ 90) || (97 ≤ b && b ≤ 122) || b == 95
def isDig (b : Nat) : Bool := 48 ≤ b && b ≤ 57
/-- May that byte be the i-th one of a name? -/
def cont (i b : Nat) : Bool := isLet b || (i != 0 && isDig b)
/-- How many bytes of a name stand at a place, from the i-th one on. -/
def nameGo (s : List UInt8) (a : Nat) : Nat → Nat → Nat
  | 0, i => i
  | f + 1, i => if cont i (byteAt s (a + i)) then nameGo s a f (i + 1) else i
def nameLen (s : List UInt8) (a : Nat) : Nat := nameGo s a (s.length + 1) 0
/-- The signs. -/
def isSign (b : Nat) : Bool := b == 47 || b == 38 || b == 33 || b == 63 || b == 42 || b == 43 || b == 40 || b == 41 || b == 46
/-- What stands behind a backslash in a literal. -/
def lescAt (s : List UInt8) (a : Nat) : Got Nat :=
  if byteAt s a = 110 then .inr (10, a + 1) else if byteAt s a = 114 then .inr (13, a + 1) else if byteAt s a = 116 then .inr (9, a + 1)
  else if byteAt s a = 92 ∨ byteAt s a = 34 ∨ byteAt s a = 39 then .inr (byteAt s a, a + 1) else if byteAt s a = 120 then hexAt s (a + 1) else .inl (wrongAt s a)
/-- A byte of a literal. -/
def lchAt (s : List UInt8) (a : Nat) : Got Nat :=
  if byteAt s a = 92 then lescAt s (a + 1) else if byteAt s a < 32 ∨ 126 < byteAt s a then .inl (4, a) else .inr (byteAt s a, a + 1)
/-- The rest of a literal that began at st with the quote q. -/
def litGo (s : List UInt8) (q st : Nat) : Nat → Nat → List UInt8 → Got (List UInt8)
  | 0, a, _ => .inl (3, a)
  | f + 1, a, l => if s.length ≤ a then .inl (3, s.length) else if byteAt s a = q then .inr (l, a + 1) else match lchAt s a with
    | .inl e => .inl e
    | .inr (c, n) => if l.length = 255 then .inl (2, st) else litGo s q st f n (l ++ [c.toUInt8])
/-- A token at a place where no blank stands. -/
def tokAt (s : List UInt8) (a : Nat) : Got Tok :=
  if 32 < nameLen s a then .inl (2, a)
  else if 0 < nameLen s a then .inr (⟨1, (s.drop a).take (nameLen s a), 0, a⟩, a + nameLen s a)
  else if isSign (byteAt s a) then .inr (⟨5, [(byteAt s a).toUInt8], 0, a⟩, a + 1)
  else if byteAt s a = 60 ∧ byteAt s (a + 1) = 45 then .inr (⟨2, [], 0, a⟩, a + 2)
  else if byteAt s a = 39 ∨ byteAt s a = 34 then match litGo s (byteAt s a) a (s.length + 1) (a + 1) [] with
    | .inl e => .inl e
    | .inr (l, n) => .inr (⟨3, l, 0, a⟩, n)
  else if byteAt s a = 91 then match parsed (s.drop a) with
    | .inl (e, n) => .inl (e, a + n)
    | .inr (c, n) => .inr (⟨4, [], c, a⟩, a + n)
  else .inl (4, a)
/-- Where a note ends. -/
def noteEnd (s : List UInt8) (a : Nat) : Nat := if 0 ≤ Lib.indexByte (s.drop a) 10 then a + (Lib.indexByte (s.drop a) 10).toNat else s.length
def isBlank (b : Nat) : Bool := b == 9 || b == 10 || b == 13 || b == 32
/-- The tokens from a place on. -/
def toksGo (s : List UInt8) : Nat → Nat → List Tok → (Nat × Nat) ⊕ List Tok
  | 0, a, _ => .inl (3, a)
  | f + 1, a, l => if s.length ≤ a then .inr (l ++ [⟨6, [], 0, s.length⟩])
    else if byteAt s a = 35 then toksGo s f (noteEnd s a) l
    else if isBlank (byteAt s a) then toksGo s f (a + 1) l
    else match tokAt s a with
      | .inl e => .inl e
      | .inr (t, n) => toksGo s f n (l ++ [t])
/-- The tokens of a source of at most 8192 bytes. -/
def toks (s : List UInt8) : (Nat × Nat) ⊕ List Tok := toksGo s (2 * s.length + 2) 0 []

theorem indexByte_none {l : List UInt8} {c : UInt8} : Lib.indexByte l c = -1 → ∀ i : Nat, l[i]? ≠ some c := by
  induction l with
  | nil => intro _ i; simp
  | cons b l ih =>
    intro h i
    unfold Lib.indexByte at h
    split at h
    · cases h
    · split at h
      · next hb h2 =>
        have h3 := ih (eq_of_beq h2)
        cases i with
        | zero => simp; intro e; subst e; simp at hb
        | succ i => simpa using h3 i
      · have := Lib.indexByte_ge l c; omega
theorem indexByte_some {l : List UInt8} {c : UInt8} {n : Nat} : Lib.indexByte l c = n → l[n]? = some c ∧ ∀ i : Nat, i < n → l[i]? ≠ some c := by
  induction l generalizing n with
  | nil => intro h; simp [Lib.indexByte] at h
  | cons b l ih =>
    intro h
    unfold Lib.indexByte at h
    split at h
    · next hb =>
      obtain rfl : n = 0 := by omega
      exact ⟨by simpa using eq_of_beq hb, fun i hi => by omega⟩
    · split at h
      · omega
      · next hb h2 =>
        have := Lib.indexByte_ge l c
        have h2' : Lib.indexByte l c ≠ -1 := by simpa using h2
        obtain ⟨m, rfl⟩ : ∃ m, n = m + 1 := ⟨n - 1, by omega⟩
        have h3 := ih (n := m) (by omega)
        refine ⟨by simpa using h3.1, ?_⟩
        intro i hi
        cases i with
        | zero => simp; intro e; subst e; simp at hb
        | succ i => simpa using h3.2 i (by omega)
theorem noteEnd_bd {s : List UInt8} {a : Nat} (h : a < s.length) (hb : byteAt s a ≠ 10) : a < noteEnd s a ∧ noteEnd s a ≤ s.length := by
  unfold noteEnd
  split
  · next h0 =>
    obtain ⟨n, hn⟩ := Int.eq_ofNat_of_zero_le h0
    rw [hn]
    have h1 := (indexByte_some hn).1
    have h2 : n ≠ 0 := by
      rintro rfl
      apply hb
      rw [List.getElem?_drop, Nat.add_zero] at h1
      rw [byteAt, h1]
      rfl
    have h3 : n < (s.drop a).length := by
      rcases Nat.lt_or_ge n (s.drop a).length with h | h
      · exact h
      · rw [List.getElem?_eq_none h] at h1; cases h1
    simp at h3
    simp
    omega
  · omega
theorem cont_in {i b : Nat} (h : cont i b = true) : b < 256 := by
  simp [cont, isLet, isDig] at h; omega
theorem nameGo_spec (s : List UInt8) (a : Nat) : ∀ (f i : Nat), i ≤ nameGo s a f i ∧ (∀ j, i ≤ j → j < nameGo s a f i → cont j (byteAt s (a + j)) = true) ∧ (s.length + 1 ≤ a + i + f → cont (nameGo s a f i) (byteAt s (a + nameGo s a f i)) = false) := by
  intro f
  induction f with
  | zero =>
    intro i
    refine ⟨Nat.le_refl _, fun j h1 h2 => by rw [nameGo] at h2; omega, fun h => ?_⟩
    rw [nameGo, byteAt_ge (by omega)]
    simp [cont, isLet, isDig]
  | succ f ih =>
    intro i
    rw [nameGo]
    split
    · next hc =>
      have h := ih (i + 1)
      refine ⟨by omega, fun j h1 h2 => ?_, fun h4 => h.2.2 (by omega)⟩
      by_cases e : j = i
      · subst e; exact hc
      · exact h.2.1 j (by omega) h2
    · next hc => exact ⟨Nat.le_refl _, fun j h1 h2 => by omega, fun _ => by simpa using hc⟩
theorem nameLen_spec (s : List UInt8) (a : Nat) : (∀ j, j < nameLen s a → cont j (byteAt s (a + j)) = true) ∧ cont (nameLen s a) (byteAt s (a + nameLen s a)) = false := by
  have h := nameGo_spec s a (s.length + 1) 0
  exact ⟨fun j hj => h.2.1 j (by omega) hj, h.2.2 (by omega)⟩
/-- A length that a name has is the name's. -/
theorem nameLen_is {s : List UInt8} {a n : Nat} (h1 : ∀ j, j < n → cont j (byteAt s (a + j)) = true) (h2 : cont n (byteAt s (a + n)) = false) : nameLen s a = n := by
  have h := nameLen_spec s a
  rcases Nat.lt_trichotomy (nameLen s a) n with e | e | e
  · have := h1 _ e; rw [h.2] at this; cases this
  · exact e
  · have := h.1 _ e; rw [h2] at this; cases this
theorem nameLen_in (s : List UInt8) (a : Nat) (ha : a ≤ s.length) : a + nameLen s a ≤ s.length := by
  have h := (nameLen_spec s a).1
  rcases Nat.eq_zero_or_pos (nameLen s a) with e | e
  · omega
  · have := byteAt_in (cont_in (h (nameLen s a - 1) (by omega))); omega
theorem lescAt_bd {s : List UInt8} {a c n : Nat} (e : lescAt s a = .inr (c, n)) : c < 256 ∧ a < n ∧ n ≤ s.length := by
  unfold lescAt at e
  have hb := @byteAt_in s a
  split at e
  · simp at e; omega
  split at e
  · simp at e; omega
  split at e
  · simp at e; omega
  split at e
  · simp at e; omega
  split at e
  · have := hexAt_bd e; omega
  · cases e
theorem lchAt_bd {s : List UInt8} {a c n : Nat} (e : lchAt s a = .inr (c, n)) : c < 256 ∧ a < n ∧ n ≤ s.length := by
  unfold lchAt at e
  have hb := @byteAt_in s a
  split at e
  · have := lescAt_bd e; omega
  split at e
  · cases e
  · simp at e; omega
theorem litGo_bd {s : List UInt8} {q st : Nat} : ∀ {f a n : Nat} {l m : List UInt8}, litGo s q st f a l = .inr (m, n) → a < n ∧ n ≤ s.length := by
  intro f
  induction f with
  | zero => intro a n l m h; cases h
  | succ f ih =>
    intro a n l m h
    rw [litGo] at h
    split at h
    · cases h
    split at h
    · simp at h; omega
    split at h
    · cases h
    · next c k e =>
      have := lchAt_bd e
      split at h
      · cases h
      · have := ih h; omega
theorem parsed_bd {s : List UInt8} {c : BitVec 256} {n : Nat} (h : parsed s = .inr (c, n)) : 1 < n ∧ n ≤ s.length := by
  unfold parsed at h
  split at h
  · split at h
    · split at h
      · cases h
      · next e => simp at h; have := memsAt_bd e; omega
    · have := memsAt_bd h; omega
  · cases h
theorem tokAt_bd {s : List UInt8} {a n : Nat} {t : Tok} (ha : a < s.length) (e : tokAt s a = .inr (t, n)) : a < n ∧ n ≤ s.length ∧ t.pos = a := by
  unfold tokAt at e
  have hn := nameLen_in s a (by omega)
  split at e
  · cases e
  split at e
  · simp at e; obtain ⟨e1, e2⟩ := e; subst e1; simp; omega
  split at e
  · simp at e; obtain ⟨e1, e2⟩ := e; subst e1; simp; omega
  split at e
  · next h => have := byteAt_in (s := s) (a := a + 1) (by omega); simp at e; obtain ⟨e1, e2⟩ := e; subst e1; simp; omega
  split at e
  · split at e
    · cases e
    · next l m h => have := litGo_bd h; simp at e; obtain ⟨e1, e2⟩ := e; subst e1; simp; omega
  split at e
  · split at e
    · cases e
    · next c m h => have := parsed_bd h; simp at this; simp at e; obtain ⟨e1, e2⟩ := e; subst e1; simp; omega
  · cases e
theorem wrongAt_le (s : List UInt8) (a : Nat) : (wrongAt s a).2 ≤ s.length := by
  unfold wrongAt; split <;> simp <;> omega
theorem wrong_le {s : List UInt8} {a e n : Nat} (h : wrongAt s a = (e, n)) : n ≤ s.length := by have := wrongAt_le s a; rw [h] at this; exact this
theorem lowAt_le {s : List UInt8} {h a e n : Nat} (g : lowAt s h a = .inl (e, n)) : n ≤ s.length := by
  unfold lowAt at g
  split at g
  · exact wrong_le (Sum.inl.inj g)
  · cases g
theorem hexAt_le {s : List UInt8} {a e n : Nat} (g : hexAt s a = .inl (e, n)) : n ≤ s.length := by
  unfold hexAt at g
  split at g
  · exact wrong_le (Sum.inl.inj g)
  · exact lowAt_le g
theorem escAt_le {s : List UInt8} {a e n : Nat} (g : escAt s a = .inl (e, n)) : n ≤ s.length := by
  unfold escAt at g
  split at g
  · cases g
  split at g
  · cases g
  split at g
  · cases g
  split at g
  · cases g
  split at g
  · exact hexAt_le g
  · exact wrong_le (Sum.inl.inj g)
theorem sgnAt_le {s : List UInt8} {a e n : Nat} (g : sgnAt s a = .inl (e, n)) : n ≤ s.length := by
  unfold sgnAt at g
  split at g
  · exact escAt_le g
  split at g
  · exact wrong_le (Sum.inl.inj g)
  · cases g
theorem memAt_le {s : List UInt8} {a e n : Nat} (ha : a ≤ s.length) (g : memAt s a = .inl (e, n)) : n ≤ s.length := by
  unfold memAt at g
  split at g
  · next h => rw [Sum.inl.inj g] at h; exact sgnAt_le h
  · split at g
    · next h =>
      rw [Sum.inl.inj g] at h
      unfold hiAt at h
      split at h
      · exact sgnAt_le h
      · cases h
    · split at g
      · simp at g; omega
      · cases g
theorem memsAt_le {s : List UInt8} : ∀ {f a e n : Nat} {c : BitVec 256}, a ≤ s.length → memsAt s f a c = .inl (e, n) → n ≤ s.length := by
  intro f
  induction f with
  | zero => intro a e n c ha g; simp [memsAt] at g; omega
  | succ f ih =>
    intro a e n c ha g
    rw [memsAt] at g
    split at g
    · cases g
    · split at g
      · next h => rw [Sum.inl.inj g] at h; exact memAt_le ha h
      · next h => exact ih (memAt_bd h).2 g
theorem parsed_le {s : List UInt8} {e n : Nat} (g : parsed s = .inl (e, n)) : n ≤ s.length := by
  unfold parsed at g
  split at g
  · next h0 =>
    have l0 := byteAt_in (s := s) (a := 0) (by omega)
    split at g
    · next h1 =>
      have l1 := byteAt_in (s := s) (a := 1) (by omega)
      split at g
      · next h => rw [Sum.inl.inj g] at h; exact memsAt_le (by omega) h
      · cases g
    · exact memsAt_le (by omega) g
  · exact wrong_le (Sum.inl.inj g)
end Go.Proofs.YteohgaheockepaaDoor
namespace Go.Proofs.YteohgaheockepaaDoor
open Go.RowKit Go.Sort

/-- A node of any tree. -/
inductive Tr where
  | mk (kind : Int) (text : List UInt8) (cls : BitVec 256) (subs : List Tr) (pos : Int)
/-- The cells of a node whose parts are that slice. -/
def trC (k : Int) (t : List UInt8) (c : BitVec 256) (v : Value) (p : Int) : List Value := [.int .i64 k, .string (mkS t), .int .u64 (wd c 0), .int .u64 (wd c 1), .int .u64 (wd c 2), .int .u64 (wd c 3), v, .int .i64 p]
mutual
/-- These cells are that tree, in these blocks. -/
inductive RepA (w : World) (P : Nat → Prop) : Tr → List Value → Prop
  | mk {k : Int} {t : List UInt8} {c : BitVec 256} {l : List Tr} {p : Int} {v : Value} : RepL w P l v → RepA w P (.mk k t c l p) (trC k t c v p)
inductive RepL (w : World) (P : Nat → Prop) : List Tr → Value → Prop
  | null : RepL w P [] (.slice none 0 0)
  | zero {a : Addr} {cap : Nat} : RepL w P [] (.slice (some a) 0 cap)
  | row {l : List Tr} {g o cap : Nat} : P g → 0 < l.length → l.length ≤ cap → l.length ≤ maxLen → RepC w P g o l → RepL w P l (.slice (some ⟨g, o, none⟩) l.length cap)
inductive RepC (w : World) (P : Nat → Prop) : Nat → Nat → List Tr → Prop
  | nil {g o : Nat} : RepC w P g o []
  | cons {g o : Nat} {n : Tr} {l : List Tr} {cs : List Value} : (∀ j, j < 8 → w.cell? ⟨g, o + j, none⟩ = cs[j]?) → RepA w P n cs → RepC w P g (o + 8) l → RepC w P g o (n :: l)
end
theorem cell_block {w w' : World} {a : Addr} (h : w'.heap[a.block]? = w.heap[a.block]?) : w'.cell? a = w.cell? a := by unfold World.cell?; rw [h]
mutual
theorem RepA.mono {w w' : World} {P P' : Nat → Prop} (hb : ∀ b, P b → w'.heap[b]? = w.heap[b]?) (hP : ∀ b, P b → P' b) {n : Tr} {c : List Value} : RepA w P n c → RepA w' P' n c
  | .mk h => .mk (RepL.mono hb hP h)
theorem RepL.mono {w w' : World} {P P' : Nat → Prop} (hb : ∀ b, P b → w'.heap[b]? = w.heap[b]?) (hP : ∀ b, P b → P' b) {l : List Tr} {v : Value} : RepL w P l v → RepL w' P' l v
  | .null => .null
  | .zero => .zero
  | .row h1 h2 h3 h4 h5 => .row (hP _ h1) h2 h3 h4 (RepC.mono hb hP h1 h5)
theorem RepC.mono {w w' : World} {P P' : Nat → Prop} (hb : ∀ b, P b → w'.heap[b]? = w.heap[b]?) (hP : ∀ b, P b → P' b) {g o : Nat} {l : List Tr} (hg : P g) : RepC w P g o l → RepC w' P' g o l
  | .nil => .nil
  | .cons h1 h2 h3 => .cons (fun j hj => (cell_block (a := ⟨g, o + j, none⟩) (hb g hg)).trans (h1 j hj)) (RepA.mono hb hP h2) (RepC.mono hb hP hg h3)
end
theorem RepA.form {w : World} {P : Nat → Prop} {n : Tr} {c : List Value} (h : RepA w P n c) : ∃ k t x v l p, n = .mk k t x l p ∧ c = trC k t x v p ∧ RepL w P l v := by
  cases h with
  | mk h => exact ⟨_, _, _, _, _, _, rfl, rfl, h⟩
theorem RepL.slice {w : World} {P : Nat → Prop} {l : List Tr} {v : Value} (h : RepL w P l v) : ∃ a cap, v = .slice a l.length cap ∧ l.length ≤ cap ∧ l.length ≤ maxLen := by
  cases h with
  | null => exact ⟨_, _, rfl, Nat.le_refl _, Nat.zero_le _⟩
  | zero => exact ⟨_, _, rfl, Nat.zero_le _, Nat.zero_le _⟩
  | row h1 h2 h3 h4 h5 => exact ⟨_, _, rfl, h3, h4⟩
theorem RepL.parts {w : World} {P : Nat → Prop} {l : List Tr} {v : Value} (h : RepL w P l v) : (l = [] ∧ v = .slice none 0 0) ∨ (l = [] ∧ ∃ a cap, v = .slice (some a) 0 cap) ∨ ∃ g o cap, v = .slice (some ⟨g, o, none⟩) l.length cap ∧ P g ∧ 0 < l.length ∧ l.length ≤ cap ∧ l.length ≤ maxLen ∧ RepC w P g o l := by
  cases h with
  | null => exact .inl ⟨rfl, rfl⟩
  | zero => exact .inr (.inl ⟨rfl, _, _, rfl⟩)
  | row h1 h2 h3 h4 h5 => exact .inr (.inr ⟨_, _, _, rfl, h1, h2, h3, h4, h5⟩)
/-- A part, as its cells lie in the row. -/
theorem RepC.get {w : World} {P : Nat → Prop} {l : List Tr} : ∀ {g o : Nat}, RepC w P g o l → ∀ {i : Nat} {x : Tr}, l[i]? = some x → ∃ k t c sa sn sc p l', x = .mk k t c l' p ∧ RepA w P x (trC k t c (.slice sa sn sc) p) ∧ RepL w P l' (.slice sa sn sc) ∧ w.cell? ⟨g, o + i * 8, none⟩ = some (.int .i64 k) ∧ w.cell? ⟨g, o + i * 8 + 1, none⟩ = some (.string (mkS t)) ∧ w.cell? ⟨g, o + i * 8 + 2, none⟩ = some (.int .u64 (wd c 0)) ∧ w.cell? ⟨g, o + i * 8 + 3, none⟩ = some (.int .u64 (wd c 1)) ∧ w.cell? ⟨g, o + i * 8 + 4, none⟩ = some (.int .u64 (wd c 2)) ∧ w.cell? ⟨g, o + i * 8 + 5, none⟩ = some (.int .u64 (wd c 3)) ∧ w.cell? ⟨g, o + i * 8 + 6, none⟩ = some (.slice sa sn sc) ∧ w.cell? ⟨g, o + i * 8 + 7, none⟩ = some (.int .i64 p) := by
  induction l with
  | nil => intro g o _ i x hi; simp at hi
  | cons m l ih =>
    intro g o h i x hi
    cases h with
    | cons h1 h2 h3 =>
      cases i with
      | zero =>
        simp at hi
        subst hi
        obtain ⟨k, t, c, v, l', p, e1, e2, h4⟩ := h2.form
        obtain ⟨a, cap, rfl, _⟩ := h4.slice
        subst e2
        subst e1
        refine ⟨k, t, c, a, _, cap, p, l', rfl, h2, h4, ?_⟩
        have key : ∀ j, j < 8 → w.cell? ⟨g, o + 0 * 8 + j, none⟩ = (trC k t c (.slice a l'.length cap) p)[j]? := fun j hj => by rw [Nat.zero_mul, Nat.add_zero]; exact h1 j hj
        exact ⟨key 0 (by decide), key 1 (by decide), key 2 (by decide), key 3 (by decide), key 4 (by decide), key 5 (by decide), key 6 (by decide), key 7 (by decide)⟩
      | succ i =>
        have := ih h3 (by simpa using hi)
        rw [show o + 8 + i * 8 = o + (i + 1) * 8 by omega] at this
        exact this
theorem RepC.snoc {w : World} {P : Nat → Prop} {l : List Tr} : ∀ {g o : Nat} {n : Tr} {cs : List Value}, RepC w P g o l → (∀ j, j < 8 → w.cell? ⟨g, o + l.length * 8 + j, none⟩ = cs[j]?) → RepA w P n cs → RepC w P g o (l ++ [n]) := by
  induction l with
  | nil =>
    intro g o n cs _ h2 h3
    refine .cons (fun j hj => ?_) h3 .nil
    have := h2 j hj
    simpa using this
  | cons m l ih =>
    intro g o n cs h1 h2 h3
    cases h1 with
    | cons g1 g2 g3 =>
      refine .cons g1 g2 (ih g3 (fun j hj => ?_) h3)
      have := h2 j hj
      rw [List.length_cons] at this
      rw [← this]
      congr 2
      omega
theorem RepA.under {w w' : World} {n : Tr} {c : List Value} (h : RepA w (fun b => b < w.heap.size) n c) (hb : Below w.heap.size w w') : RepA w' (fun b => b < w'.heap.size) n c := h.mono (fun b hb' => hb.block b hb') (fun _ h => Nat.lt_of_lt_of_le h hb.size)
theorem RepA.on {w w' : World} {P : Nat → Prop} {n : Tr} {c : List Value} (h : RepA w P n c) (hP : ∀ b, P b → b < w.heap.size) (hb : Below w.heap.size w w') : RepA w' P n c := h.mono (fun b hb' => hb.block b (hP b hb')) (fun _ h => h)
mutual
/-- The same tree; with its places, if asked for. -/
inductive SameT (at_ : Bool) : Tr → Tr → Prop
  | mk {k p p' : Int} {t : List UInt8} {c : BitVec 256} {l l' : List Tr} : (at_ = true → p = p') → SameU at_ l l' → SameT at_ (.mk k t c l p) (.mk k t c l' p')
inductive SameU (at_ : Bool) : List Tr → List Tr → Prop
  | nil : SameU at_ [] []
  | cons {n n' : Tr} {l l' : List Tr} : SameT at_ n n' → SameU at_ l l' → SameU at_ (n :: l) (n' :: l')
end
mutual
theorem SameT.refl (b : Bool) : ∀ n : Tr, SameT b n n
  | .mk _ _ _ l _ => .mk (fun _ => rfl) (SameU.refl b l)
theorem SameU.refl (b : Bool) : ∀ l : List Tr, SameU b l l
  | [] => .nil
  | n :: l => .cons (SameT.refl b n) (SameU.refl b l)
end
theorem SameU.length {b : Bool} {l l' : List Tr} (h : SameU b l l') : l.length = l'.length := by
  induction l generalizing l' with
  | nil => cases h; rfl
  | cons n l ih => cases h with
    | cons h1 h2 => simp [ih h2]
theorem SameU.get {b : Bool} {l l' : List Tr} (h : SameU b l l') {k : Nat} {n n' : Tr} (h1 : l[k]? = some n) (h2 : l'[k]? = some n') : SameT b n n' := by
  induction l generalizing l' k with
  | nil => cases h; simp at h1
  | cons m l ih => cases h with
    | cons g1 g2 =>
      cases k with
      | zero => simp at h1 h2; rw [← h1, ← h2]; exact g1
      | succ k => exact ih g2 (by simpa using h1) (by simpa using h2)
/-- A rule. -/
structure Rr where
  name : List UInt8
  body : Tr
  pos : Int
/-- The cells from a place on are those rules. -/
inductive RepR (w : World) (P : Nat → Prop) : Nat → Nat → List Rr → Prop
  | nil {g o : Nat} : RepR w P g o []
  | cons {g o : Nat} {r : Rr} {l : List Rr} {cs : List Value} : (∀ j, j < 10 → w.cell? ⟨g, o + j, none⟩ = (Value.string (mkS r.name) :: (cs ++ [.int .i64 r.pos]))[j]?) → RepA w P r.body cs → RepR w P g (o + 10) l → RepR w P g o (r :: l)
/-- A slice that is those rules. -/
inductive RepGr (w : World) (P : Nat → Prop) : List Rr → Value → Prop
  | null : RepGr w P [] (.slice none 0 0)
  | zero {a : Addr} {cap : Nat} : RepGr w P [] (.slice (some a) 0 cap)
  | row {l : List Rr} {g o cap : Nat} : P g → 0 < l.length → l.length ≤ cap → l.length ≤ maxLen → RepR w P g o l → RepGr w P l (.slice (some ⟨g, o, none⟩) l.length cap)
theorem RepR.mono {w w' : World} {P P' : Nat → Prop} (hb : ∀ b, P b → w'.heap[b]? = w.heap[b]?) (hP : ∀ b, P b → P' b) {g o : Nat} {l : List Rr} (hg : P g) (h : RepR w P g o l) : RepR w' P' g o l := by
  induction h with
  | nil => exact .nil
  | cons h1 h2 _ ih => exact .cons (fun j hj => (cell_block (a := ⟨_, _, none⟩) (hb _ hg)).trans (h1 j hj)) (h2.mono hb hP) ih
theorem RepGr.mono {w w' : World} {P P' : Nat → Prop} (hb : ∀ b, P b → w'.heap[b]? = w.heap[b]?) (hP : ∀ b, P b → P' b) {l : List Rr} {v : Value} (h : RepGr w P l v) : RepGr w' P' l v := by
  cases h with
  | null => exact .null
  | zero => exact .zero
  | row h1 h2 h3 h4 h5 => exact .row (hP _ h1) h2 h3 h4 (h5.mono hb hP h1)
theorem RepGr.under {w w' : World} {l : List Rr} {v : Value} (h : RepGr w (fun b => b < w.heap.size) l v) (hb : Below w.heap.size w w') : RepGr w' (fun b => b < w'.heap.size) l v := h.mono (fun b hb' => hb.block b hb') (fun _ h => Nat.lt_of_lt_of_le h hb.size)
theorem RepGr.on {w w' : World} {P : Nat → Prop} {l : List Rr} {v : Value} (h : RepGr w P l v) (hP : ∀ b, P b → b < w.heap.size) (hb : Below w.heap.size w w') : RepGr w' P l v := h.mono (fun b hb' => hb.block b (hP b hb')) (fun _ h => h)
theorem RepGr.slice {w : World} {P : Nat → Prop} {l : List Rr} {v : Value} (h : RepGr w P l v) : ∃ a cap, v = .slice a l.length cap ∧ l.length ≤ cap ∧ l.length ≤ maxLen := by
  cases h with
  | null => exact ⟨_, _, rfl, Nat.le_refl _, Nat.zero_le _⟩
  | zero => exact ⟨_, _, rfl, Nat.zero_le _, Nat.zero_le _⟩
  | row h1 h2 h3 h4 h5 => exact ⟨_, _, rfl, h3, h4⟩
theorem RepGr.parts {w : World} {P : Nat → Prop} {l : List Rr} {v : Value} (h : RepGr w P l v) : (l = [] ∧ v = .slice none 0 0) ∨ (l = [] ∧ ∃ a cap, v = .slice (some a) 0 cap) ∨ ∃ g o cap, v = .slice (some ⟨g, o, none⟩) l.length cap ∧ P g ∧ 0 < l.length ∧ l.length ≤ cap ∧ l.length ≤ maxLen ∧ RepR w P g o l := by
  cases h with
  | null => exact .inl ⟨rfl, rfl⟩
  | zero => exact .inr (.inl ⟨rfl, _, _, rfl⟩)
  | row h1 h2 h3 h4 h5 => exact .inr (.inr ⟨_, _, _, rfl, h1, h2, h3, h4, h5⟩)
/-- A rule, as its cells lie in the row. -/
theorem RepR.get {w : World} {P : Nat → Prop} {l : List Rr} : ∀ {g o : Nat}, RepR w P g o l → ∀ {i : Nat} {x : Rr}, l[i]? = some x → ∃ k t c sa sn sc p l', x.body = .mk k t c l' p ∧ RepA w P x.body (trC k t c (.slice sa sn sc) p) ∧ RepL w P l' (.slice sa sn sc) ∧ w.cell? ⟨g, o + i * 10, none⟩ = some (.string (mkS x.name)) ∧ w.cell? ⟨g, o + i * 10 + 1, none⟩ = some (.int .i64 k) ∧ w.cell? ⟨g, o + i * 10 + 1 + 1, none⟩ = some (.string (mkS t)) ∧ w.cell? ⟨g, o + i * 10 + 1 + 2, none⟩ = some (.int .u64 (wd c 0)) ∧ w.cell? ⟨g, o + i * 10 + 1 + 3, none⟩ = some (.int .u64 (wd c 1)) ∧ w.cell? ⟨g, o + i * 10 + 1 + 4, none⟩ = some (.int .u64 (wd c 2)) ∧ w.cell? ⟨g, o + i * 10 + 1 + 5, none⟩ = some (.int .u64 (wd c 3)) ∧ w.cell? ⟨g, o + i * 10 + 1 + 6, none⟩ = some (.slice sa sn sc) ∧ w.cell? ⟨g, o + i * 10 + 1 + 7, none⟩ = some (.int .i64 p) ∧ w.cell? ⟨g, o + i * 10 + 9, none⟩ = some (.int .i64 x.pos) := by
  induction l with
  | nil => intro g o _ i x hi; simp at hi
  | cons m l ih =>
    intro g o h i x hi
    cases h with
    | cons h1 h2 h3 =>
      cases i with
      | zero =>
        simp at hi
        subst hi
        obtain ⟨k, t, c, v, l', p, e1, e2, h4⟩ := h2.form
        obtain ⟨a, cap, rfl, _⟩ := h4.slice
        subst e2
        refine ⟨k, t, c, a, _, cap, p, l', e1, h2, h4, ?_⟩
        have key : ∀ j, j < 10 → w.cell? ⟨g, o + 0 * 10 + j, none⟩ = (Value.string (mkS m.name) :: (trC k t c (.slice a l'.length cap) p ++ [.int .i64 m.pos]))[j]? := fun j hj => by rw [Nat.zero_mul, Nat.add_zero]; exact h1 j hj
        exact ⟨key 0 (by decide), key 1 (by decide), key 2 (by decide), key 3 (by decide), key 4 (by decide), key 5 (by decide), key 6 (by decide), key 7 (by decide), key 8 (by decide), key 9 (by decide)⟩
      | succ i =>
        have := ih h3 (by simpa using hi)
        rw [show o + 10 + i * 10 = o + (i + 1) * 10 by omega] at this
        exact this
theorem RepR.snoc {w : World} {P : Nat → Prop} {l : List Rr} : ∀ {g o : Nat} {r : Rr} {cs : List Value}, RepR w P g o l → (∀ j, j < 10 → w.cell? ⟨g, o + l.length * 10 + j, none⟩ = (Value.string (mkS r.name) :: (cs ++ [.int .i64 r.pos]))[j]?) → RepA w P r.body cs → RepR w P g o (l ++ [r]) := by
  induction l with
  | nil =>
    intro g o n cs _ h2 h3
    refine .cons (fun j hj => ?_) h3 .nil
    have := h2 j hj
    simpa using this
  | cons m l ih =>
    intro g o n cs h1 h2 h3
    cases h1 with
    | cons g1 g2 g3 =>
      refine .cons g1 g2 (ih g3 (fun j hj => ?_) h3)
      have := h2 j hj
      rw [List.length_cons] at this
      rw [← this]
      congr 2
      omega
/-- The same rules; with their places, if asked for. -/
inductive SameR (at_ : Bool) : List Rr → List Rr → Prop
  | nil : SameR at_ [] []
  | cons {n : List UInt8} {b b' : Tr} {p p' : Int} {l l' : List Rr} : SameT at_ b b' → (at_ = true → p = p') → SameR at_ l l' → SameR at_ (⟨n, b, p⟩ :: l) (⟨n, b', p'⟩ :: l')
theorem SameR.refl (b : Bool) (l : List Rr) : SameR b l l := by
  induction l with
  | nil => exact .nil
  | cons x l ih => exact .cons (SameT.refl b _) (fun _ => rfl) ih
theorem SameR.length {b : Bool} {l l' : List Rr} (h : SameR b l l') : l.length = l'.length := by
  induction h with
  | nil => rfl
  | cons _ _ _ ih => simp [ih]
theorem SameR.get {b : Bool} {l l' : List Rr} (h : SameR b l l') {k : Nat} {x x' : Rr} (h1 : l[k]? = some x) (h2 : l'[k]? = some x') : x.name = x'.name ∧ SameT b x.body x'.body ∧ (b = true → x.pos = x'.pos) := by
  induction h generalizing k with
  | nil => simp at h1
  | cons g1 g2 g3 ih =>
    cases k with
    | zero => simp at h1 h2; rw [← h1, ← h2]; exact ⟨rfl, g1, g2⟩
    | succ k => exact ih (by simpa using h1) (by simpa using h2)
end Go.Proofs.YteohgaheockepaaDoor
