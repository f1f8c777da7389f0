/- Any tree, as it lies among the arguments or in new memory: plain. | The walk of the lexer laws' small case. | lex.Tokens of any source: the tokens, or what is wrong and where; an error's number and place. | Two tokens compared: the same ones. | Two rows of tokens compared (the document's Same): the same ones. -/
import Derived.Test.YtjlcoldnhbkcgaaGreatDoorG1
import Derived.Test.YtjlcoldnhbkcgaaGreatDoorG0
import Derived.Test.YtjlcoldnhbkcgaaGreatDoorG17
import Derived.Test.YtjlcoldnhbkcgaaGreatDoorG14
import Derived.Test.YtjlcoldnhbkcgaaGreatDoorG7
import Derived.Test.YtjlcoldnhbkcgaaGreatDoorG4
import Derived.Laws.StructEq
namespace Go.Proofs.YtjlcoldnhbkcgaaGreatDoor
open Go.RowKit Go.Sort

/-- A node of any tree. -/
inductive Tr where
  | mk (kind : Int) (text : List UInt8) (cls : BitVec 256) (subs : List Tr) (pos : Int)
/-- The cells of a node whose parts are that slice. -/
def trC (k : Int) (t : List UInt8) (c : BitVec 256) (v : Value) (p : Int) : List Value := [.int .i64 k, .string (mkS t), .int .u64 (wd c 0), .int .u64 (wd c 1), .int .u64 (wd c 2), .int .u64 (wd c 3), v, .int .i64 p]
mutual
/-- These cells are that tree, in these blocks. -/
inductive RepA (w : World) (P : Nat → Prop) : Tr → List Value → Prop
  | mk {k : Int} {t : List UInt8} {c : BitVec 256} {l : List Tr} {p : Int} {v : Value} : RepL w P l v → RepA w P (.mk k t c l p) (trC k t c v p)
inductive RepL (w : World) (P : Nat → Prop) : List Tr → Value → Prop
  | null : RepL w P [] (.slice none 0 0)
  | zero {a : Addr} {cap : Nat} : RepL w P [] (.slice (some a) 0 cap)
  | row {l : List Tr} {g o cap : Nat} : P g → 0 < l.length → l.length ≤ cap → l.length ≤ maxLen → RepC w P g o l → RepL w P l (.slice (some ⟨g, o, none⟩) l.length cap)
inductive RepC (w : World) (P : Nat → Prop) : Nat → Nat → List Tr → Prop
  | nil {g o : Nat} : RepC w P g o []
  | cons {g o : Nat} {n : Tr} {l : List Tr} {cs : List Value} : (∀ j, j < 8 → w.cell? ⟨g, o + j, none⟩ = cs[j]?) → RepA w P n cs → RepC w P g (o + 8) l → RepC w P g o (n :: l)
end
theorem cell_block {w w' : World} {a : Addr} (h : w'.heap[a.block]? = w.heap[a.block]?) : w'.cell? a = w.cell? a := by unfold World.cell?; rw [h]
mutual
theorem RepA.mono {w w' : World} {P P' : Nat → Prop} (hb : ∀ b, P b → w'.heap[b]? = w.heap[b]?) (hP : ∀ b, P b → P' b) {n : Tr} {c : List Value} : RepA w P n c → RepA w' P' n c
  | .mk h => .mk (RepL.mono hb hP h)
theorem RepL.mono {w w' : World} {P P' : Nat → Prop} (hb : ∀ b, P b → w'.heap[b]? = w.heap[b]?) (hP : ∀ b, P b → P' b) {l : List Tr} {v : Value} : RepL w P l v → RepL w' P' l v
  | .null => .null
  | .zero => .zero
  | .row h1 h2 h3 h4 h5 => .row (hP _ h1) h2 h3 h4 (RepC.mono hb hP h1 h5)
theorem RepC.mono {w w' : World} {P P' : Nat → Prop} (hb : ∀ b, P b → w'.heap[b]? = w.heap[b]?) (hP : ∀ b, P b → P' b) {g o : Nat} {l : List Tr} (hg : P g) : RepC w P g o l → RepC w' P' g o l
  | .nil => .nil
  | .cons h1 h2 h3 => .cons (fun j hj => (cell_block (a := ⟨g, o + j, none⟩) (hb g hg)).trans (h1 j hj)) (RepA.mono hb hP h2) (RepC.mono hb hP hg h3)
end
theorem RepA.form {w : World} {P : Nat → Prop} {n : Tr} {c : List Value} (h : RepA w P n c) : ∃ k t x v l p, n = .mk k t x l p ∧ c = trC k t x v p ∧ RepL w P l v := by
  cases h with
  | mk h => exact ⟨_, _, _, _, _, _, rfl, rfl, h⟩
theorem RepL.slice {w : World} {P : Nat → Prop} {l : List Tr} {v : Value} (h : RepL w P l v) : ∃ a cap, v = .slice a l.length cap ∧ l.length ≤ cap ∧ l.length ≤ maxLen := by
  cases h with
  | null => exact ⟨_, _, rfl, Nat.le_refl _, Nat.zero_le _⟩
  | zero => exact ⟨_, _, rfl, Nat.zero_le _, Nat.zero_le _⟩
  | row h1 h2 h3 h4 h5 => exact ⟨_, _, rfl, h3, h4⟩
theorem RepL.parts {w : World} {P : Nat → Prop} {l : List Tr} {v : Value} (h : RepL w P l v) : (l = [] ∧ v = .slice none 0 0) ∨ (l = [] ∧ ∃ a cap, v = .slice (some a) 0 cap) ∨ ∃ g o cap, v = .slice (some ⟨g, o, none⟩) l.length cap ∧ P g ∧ 0 < l.length ∧ l.length ≤ cap ∧ l.length ≤ maxLen ∧ RepC w P g o l := by
  cases h with
  | null => exact .inl ⟨rfl, rfl⟩
  | zero => exact .inr (.inl ⟨rfl, _, _, rfl⟩)
  | row h1 h2 h3 h4 h5 => exact .inr (.inr ⟨_, _, _, rfl, h1, h2, h3, h4, h5⟩)
/-- A part, as its cells lie in the row. -/
theorem RepC.get {w : World} {P : Nat → Prop} {l : List Tr} : ∀ {g o : Nat}, RepC w P g o l → ∀ {i : Nat} {x : Tr}, l[i]? = some x → ∃ k t c sa sn sc p l', x = .mk k t c l' p ∧ RepA w P x (trC k t c (.slice sa sn sc) p) ∧ RepL w P l' (.slice sa sn sc) ∧ w.cell? ⟨g, o + i * 8, none⟩ = some (.int .i64 k) ∧ w.cell? ⟨g, o + i * 8 + 1, none⟩ = some (.string (mkS t)) ∧ w.cell? ⟨g, o + i * 8 + 2, none⟩ = some (.int .u64 (wd c 0)) ∧ w.cell? ⟨g, o + i * 8 + 3, none⟩ = some (.int .u64 (wd c 1)) ∧ w.cell? ⟨g, o + i * 8 + 4, none⟩ = some (.int .u64 (wd c 2)) ∧ w.cell? ⟨g, o + i * 8 + 5, none⟩ = some (.int .u64 (wd c 3)) ∧ w.cell? ⟨g, o + i * 8 + 6, none⟩ = some (.slice sa sn sc) ∧ w.cell? ⟨g, o + i * 8 + 7, none⟩ = some (.int .i64 p) := by
  induction l with
  | nil => intro g o _ i x hi; simp at hi
  | cons m l ih =>
    intro g o h i x hi
    cases h with
    | cons h1 h2 h3 =>
      cases i with
      | zero =>
        simp at hi
        subst hi
        obtain ⟨k, t, c, v, l', p, e1, e2, h4⟩ := h2.form
        obtain ⟨a, cap, rfl, _⟩ := h4.slice
        subst e2
        subst e1
        refine ⟨k, t, c, a, _, cap, p, l', rfl, h2, h4, ?_⟩
        have key : ∀ j, j < 8 → w.cell? ⟨g, o + 0 * 8 + j, none⟩ = (trC k t c (.slice a l'.length cap) p)[j]? := fun j hj => by rw [Nat.zero_mul, Nat.add_zero]; exact h1 j hj
        exact ⟨key 0 (by decide), key 1 (by decide), key 2 (by decide), key 3 (by decide), key 4 (by decide), key 5 (by decide), key 6 (by decide), key 7 (by decide)⟩
      | succ i =>
        have := ih h3 (by simpa using hi)
        rw [show o + 8 + i * 8 = o + (i + 1) * 8 by omega] at this
        exact this
theorem RepC.snoc {w : World} {P : Nat → Prop} {l : List Tr} : ∀ {g o : Nat} {n : Tr} {cs : List Value}, RepC w P g o l → (∀ j, j < 8 → w.cell? ⟨g, o + l.length * 8 + j, none⟩ = cs[j]?) → RepA w P n cs → RepC w P g o (l ++ [n]) := by
  induction l with
  | nil =>
    intro g o n cs _ h2 h3
    refine .cons (fun j hj => ?_) h3 .nil
    have := h2 j hj
    simpa using this
  | cons m l ih =>
    intro g o n cs h1 h2 h3
    cases h1 with
    | cons g1 g2 g3 =>
      refine .cons g1 g2 (ih g3 (fun j hj => ?_) h3)
      have := h2 j hj
      rw [List.length_cons] at this
      rw [← this]
      congr 2
      omega
theorem RepA.under {w w' : World} {n : Tr} {c : List Value} (h : RepA w (fun b => b < w.heap.size) n c) (hb : Below w.heap.size w w') : RepA w' (fun b => b < w'.heap.size) n c := h.mono (fun b hb' => hb.block b hb') (fun _ h => Nat.lt_of_lt_of_le h hb.size)
theorem RepA.on {w w' : World} {P : Nat → Prop} {n : Tr} {c : List Value} (h : RepA w P n c) (hP : ∀ b, P b → b < w.heap.size) (hb : Below w.heap.size w w') : RepA w' P n c := h.mono (fun b hb' => hb.block b (hP b hb')) (fun _ h => h)
mutual
/-- The same tree; with its places, if asked for. -/
inductive SameT (at_ : Bool) : Tr → Tr → Prop
  | mk {k p p' : Int} {t : List UInt8} {c : BitVec 256} {l l' : List Tr} : (at_ = true → p = p') → SameU at_ l l' → SameT at_ (.mk k t c l p) (.mk k t c l' p')
inductive SameU (at_ : Bool) : List Tr → List Tr → Prop
  | nil : SameU at_ [] []
  | cons {n n' : Tr} {l l' : List Tr} : SameT at_ n n' → SameU at_ l l' → SameU at_ (n :: l) (n' :: l')
end
mutual
theorem SameT.refl (b : Bool) : ∀ n : Tr, SameT b n n
  | .mk _ _ _ l _ => .mk (fun _ => rfl) (SameU.refl b l)
theorem SameU.refl (b : Bool) : ∀ l : List Tr, SameU b l l
  | [] => .nil
  | n :: l => .cons (SameT.refl b n) (SameU.refl b l)
end
theorem SameU.length {b : Bool} {l l' : List Tr} (h : SameU b l l') : l.length = l'.length := by
  induction l generalizing l' with
  | nil => cases h; rfl
  | cons n l ih => cases h with
    | cons h1 h2 => simp [ih h2]
theorem SameU.get {b : Bool} {l l' : List Tr} (h : SameU b l l') {k : Nat} {n n' : Tr} (h1 : l[k]? = some n) (h2 : l'[k]? = some n') : SameT b n n' := by
  induction l generalizing l' k with
  | nil => cases h; simp at h1
  | cons m l ih => cases h with
    | cons g1 g2 =>
      cases k with
      | zero => simp at h1 h2; rw [← h1, ← h2]; exact g1
      | succ k => exact ih g2 (by simpa using h1) (by simpa using h2)
/-- A rule. -/
structure Rr where
  name : List UInt8
  body : Tr
  pos : Int
/-- The cells from a place on are those rules. -/
inductive RepR (w : World) (P : Nat → Prop) : Nat → Nat → List Rr → Prop
  | nil {g o : Nat} : RepR w P g o []
  | cons {g o : Nat} {r : Rr} {l : List Rr} {cs : List Value} : (∀ j, j < 10 → w.cell? ⟨g, o + j, none⟩ = (Value.string (mkS r.name) :: (cs ++ [.int .i64 r.pos]))[j]?) → RepA w P r.body cs → RepR w P g (o + 10) l → RepR w P g o (r :: l)
/-- A slice that is those rules. -/
inductive RepGr (w : World) (P : Nat → Prop) : List Rr → Value → Prop
  | null : RepGr w P [] (.slice none 0 0)
  | zero {a : Addr} {cap : Nat} : RepGr w P [] (.slice (some a) 0 cap)
  | row {l : List Rr} {g o cap : Nat} : P g → 0 < l.length → l.length ≤ cap → l.length ≤ maxLen → RepR w P g o l → RepGr w P l (.slice (some ⟨g, o, none⟩) l.length cap)
theorem RepR.mono {w w' : World} {P P' : Nat → Prop} (hb : ∀ b, P b → w'.heap[b]? = w.heap[b]?) (hP : ∀ b, P b → P' b) {g o : Nat} {l : List Rr} (hg : P g) (h : RepR w P g o l) : RepR w' P' g o l := by
  induction h with
  | nil => exact .nil
  | cons h1 h2 _ ih => exact .cons (fun j hj => (cell_block (a := ⟨_, _, none⟩) (hb _ hg)).trans (h1 j hj)) (h2.mono hb hP) ih
theorem RepGr.mono {w w' : World} {P P' : Nat → Prop} (hb : ∀ b, P b → w'.heap[b]? = w.heap[b]?) (hP : ∀ b, P b → P' b) {l : List Rr} {v : Value} (h : RepGr w P l v) : RepGr w' P' l v := by
  cases h with
  | null => exact .null
  | zero => exact .zero
  | row h1 h2 h3 h4 h5 => exact .row (hP _ h1) h2 h3 h4 (h5.mono hb hP h1)
theorem RepGr.under {w w' : World} {l : List Rr} {v : Value} (h : RepGr w (fun b => b < w.heap.size) l v) (hb : Below w.heap.size w w') : RepGr w' (fun b => b < w'.heap.size) l v := h.mono (fun b hb' => hb.block b hb') (fun _ h => Nat.lt_of_lt_of_le h hb.size)
theorem RepGr.on {w w' : World} {P : Nat → Prop} {l : List Rr} {v : Value} (h : RepGr w P l v) (hP : ∀ b, P b → b < w.heap.size) (hb : Below w.heap.size w w') : RepGr w' P l v := h.mono (fun b hb' => hb.block b (hP b hb')) (fun _ h => h)
theorem RepGr.slice {w : World} {P : Nat → Prop} {l : List Rr} {v : Value} (h : RepGr w P l v) : ∃ a cap, v = .slice a l.length cap ∧ l.length ≤ cap ∧ l.length ≤ maxLen := by
  cases h with
  | null => exact ⟨_, _, rfl, Nat.le_refl _, Nat.zero_le _⟩
  | zero => exact ⟨_, _, rfl, Nat.zero_le _, Nat.zero_le _⟩
  | row h1 h2 h3 h4 h5 => exact ⟨_, _, rfl, h3, h4⟩
theorem RepGr.parts {w : World} {P : Nat → Prop} {l : List Rr} {v : Value} (h : RepGr w P l v) : (l = [] ∧ v = .slice none 0 0) ∨ (l = [] ∧ ∃ a cap, v = .slice (some a) 0 cap) ∨ ∃ g o cap, v = .slice (some ⟨g, o, none⟩) l.length cap ∧ P g ∧ 0 < l.length ∧ l.length ≤ cap ∧ l.length ≤ maxLen ∧ RepR w P g o l := by
  cases h with
  | null => exact .inl ⟨rfl, rfl⟩
  | zero => exact .inr (.inl ⟨rfl, _, _, rfl⟩)
  | row h1 h2 h3 h4 h5 => exact .inr (.inr ⟨_, _, _, rfl, h1, h2, h3, h4, h5⟩)
/-- A rule, as its cells lie in the row. -/
theorem RepR.get {w : World} {P : Nat → Prop} {l : List Rr} : ∀ {g o : Nat}, RepR w P g o l → ∀ {i : Nat} {x : Rr}, l[i]? = some x → ∃ k t c sa sn sc p l', x.body = .mk k t c l' p ∧ RepA w P x.body (trC k t c (.slice sa sn sc) p) ∧ RepL w P l' (.slice sa sn sc) ∧ w.cell? ⟨g, o + i * 10, none⟩ = some (.string (mkS x.name)) ∧ w.cell? ⟨g, o + i * 10 + 1, none⟩ = some (.int .i64 k) ∧ w.cell? ⟨g, o + i * 10 + 1 + 1, none⟩ = some (.string (mkS t)) ∧ w.cell? ⟨g, o + i * 10 + 1 + 2, none⟩ = some (.int .u64 (wd c 0)) ∧ w.cell? ⟨g, o + i * 10 + 1 + 3, none⟩ = some (.int .u64 (wd c 1)) ∧ w.cell? ⟨g, o + i * 10 + 1 + 4, none⟩ = some (.int .u64 (wd c 2)) ∧ w.cell? ⟨g, o + i * 10 + 1 + 5, none⟩ = some (.int .u64 (wd c 3)) ∧ w.cell? ⟨g, o + i * 10 + 1 + 6, none⟩ = some (.slice sa sn sc) ∧ w.cell? ⟨g, o + i * 10 + 1 + 7, none⟩ = some (.int .i64 p) ∧ w.cell? ⟨g, o + i * 10 + 9, none⟩ = some (.int .i64 x.pos) := by
  induction l with
  | nil => intro g o _ i x hi; simp at hi
  | cons m l ih =>
    intro g o h i x hi
    cases h with
    | cons h1 h2 h3 =>
      cases i with
      | zero =>
        simp at hi
        subst hi
        obtain ⟨k, t, c, v, l', p, e1, e2, h4⟩ := h2.form
        obtain ⟨a, cap, rfl, _⟩ := h4.slice
        subst e2
        refine ⟨k, t, c, a, _, cap, p, l', e1, h2, h4, ?_⟩
        have key : ∀ j, j < 10 → w.cell? ⟨g, o + 0 * 10 + j, none⟩ = (Value.string (mkS m.name) :: (trC k t c (.slice a l'.length cap) p ++ [.int .i64 m.pos]))[j]? := fun j hj => by rw [Nat.zero_mul, Nat.add_zero]; exact h1 j hj
        exact ⟨key 0 (by decide), key 1 (by decide), key 2 (by decide), key 3 (by decide), key 4 (by decide), key 5 (by decide), key 6 (by decide), key 7 (by decide), key 8 (by decide), key 9 (by decide)⟩
      | succ i =>
        have := ih h3 (by simpa using hi)
        rw [show o + 10 + i * 10 = o + (i + 1) * 10 by omega] at this
        exact this
theorem RepR.snoc {w : World} {P : Nat → Prop} {l : List Rr} : ∀ {g o : Nat} {r : Rr} {cs : List Value}, RepR w P g o l → (∀ j, j < 10 → w.cell? ⟨g, o + l.length * 10 + j, none⟩ = (Value.string (mkS r.name) :: (cs ++ [.int .i64 r.pos]))[j]?) → RepA w P r.body cs → RepR w P g o (l ++ [r]) := by
  induction l with
  | nil =>
    intro g o n cs _ h2 h3
    refine .cons (fun j hj => ?_) h3 .nil
    have := h2 j hj
    simpa using this
  | cons m l ih =>
    intro g o n cs h1 h2 h3
    cases h1 with
    | cons g1 g2 g3 =>
      refine .cons g1 g2 (ih g3 (fun j hj => ?_) h3)
      have := h2 j hj
      rw [List.length_cons] at this
      rw [← this]
      congr 2
      omega
/-- The same rules; with their places, if asked for. -/
inductive SameR (at_ : Bool) : List Rr → List Rr → Prop
  | nil : SameR at_ [] []
  | cons {n : List UInt8} {b b' : Tr} {p p' : Int} {l l' : List Rr} : SameT at_ b b' → (at_ = true → p = p') → SameR at_ l l' → SameR at_ (⟨n, b, p⟩ :: l) (⟨n, b', p'⟩ :: l')
theorem SameR.refl (b : Bool) (l : List Rr) : SameR b l l := by
  induction l with
  | nil => exact .nil
  | cons x l ih => exact .cons (SameT.refl b _) (fun _ => rfl) ih
theorem SameR.length {b : Bool} {l l' : List Rr} (h : SameR b l l') : l.length = l'.length := by
  induction h with
  | nil => rfl
  | cons _ _ _ ih => simp [ih]
theorem SameR.get {b : Bool} {l l' : List Rr} (h : SameR b l l') {k : Nat} {x x' : Rr} (h1 : l[k]? = some x) (h2 : l'[k]? = some x') : x.name = x'.name ∧ SameT b x.body x'.body ∧ (b = true → x.pos = x'.pos) := by
  induction h generalizing k with
  | nil => simp at h1
  | cons g1 g2 g3 ih =>
    cases k with
    | zero => simp at h1 h2; rw [← h1, ← h2]; exact ⟨rfl, g1, g2⟩
    | succ k => exact ih (by simpa using h1) (by simpa using h2)
end Go.Proofs.YtjlcoldnhbkcgaaGreatDoor
namespace Go.Proofs.YtjlcoldnhbkcgaaGreatDoor
open Go.RowKit Go.Sort

/-- The small case: a <- 'x'. -/
def smallL : List UInt8 := [97, 32, 60, 45, 32, 39, 120, 39]
theorem small_toks : toks smallL = .inr [⟨1, [97], 0, 0⟩, ⟨2, [], 0, 2⟩, ⟨3, [120], 0, 5⟩, ⟨6, [], 0, 8⟩] := by
  unfold toks
  rfl
theorem tokens_ok (S : ByteArray) (w : World) (hg : Laid w) (hs : S.size ≤ 8192) {l : List Tok} (h : toks (bl S) = .inr l) :
    Calls Tryz.prog 41 #[.string S] w (fun e w' => ∃ v, e = .returned (.tuple #[v, .nilIface]) ∧ w'.ownsRow w.heap.size 96 7 v l.length (tokCells l) ∧ Below w.heap.size w w') := by
  have := tokens_any S w hg hs
  rw [h] at this
  exact this
theorem tokens_no (S : ByteArray) (w : World) (hg : Laid w) (hs : S.size ≤ 8192) {er : Nat × Nat} (h : toks (bl S) = .inl er) :
    Calls Tryz.prog 41 #[.string S] w (fun e w' => AnsFault er w (fun x => .tuple #[.slice none 0 0, x]) e w' ∧ Below w.heap.size w w') := by
  have := tokens_any S w hg hs
  rw [h] at this
  exact this
theorem nbl_inj {A B : ByteArray} (h : bl A = bl B) : A = B := by
  apply ByteArray.ext
  exact Array.toList_inj.1 h
end Go.Proofs.YtjlcoldnhbkcgaaGreatDoor
namespace Go.Proofs.YtjlcoldnhbkcgaaGreatDoor
open Go.RowKit Go.Sort

/-- A fault at a place that may lie below 0. -/
def FaultI (p : Nat) (c x : Int) (w : World) : Prop := w.heap[p]? = some (.cells #[.int .i64 c, .int .i64 x] 81 (0, 0))
/-- It answers such an error, of its own. -/
def AnsFaultI (c x : Int) (w : World) (v : Value → Value) (ev : Ending) (w' : World) : Prop := ∃ p, ev = .returned (v (.iface 79 (.pointer (some ⟨p, 0, none⟩)))) ∧ FaultI p c x w' ∧ w.heap.size ≤ p
theorem faultI_of {p : Nat} {er : Nat × Nat} {w : World} (h : FaultAt p er w) : FaultI p er.1 er.2 w := h
theorem FaultI.below {p : Nat} {c x : Int} {w w' : World} (h : FaultI p c x w) (hb : Below w.heap.size w w') : FaultI p c x w' := (hb.block _ (Array.getElem?_eq_some_iff.1 h).1).trans h
theorem FaultI.lt {p : Nat} {c x : Int} {w : World} (h : FaultI p c x w) : p < w.heap.size := (Array.getElem?_eq_some_iff.1 h).1
theorem code_I {p : Nat} {c x y : Int} {w : World} (hg : Laid w) (h : FaultI p c x w) (hy : y = c) : Calls Tryz.prog 27 #[.iface 79 (.pointer (some ⟨p, 0, none⟩))] w (Ans (.int .i64 y) w) := by
  subst hy; exact code_F p _ w hg ((cells_at h).1 0)
theorem at_I {p : Nat} {c x y : Int} {w : World} (hg : Laid w) (h : FaultI p c x w) (hy : y = x) : Calls Tryz.prog 28 #[.iface 79 (.pointer (some ⟨p, 0, none⟩))] w (Ans (.int .i64 y) w) := by
  subst hy; exact at_F p _ w hg ((cells_at h).1 1)
set_option maxHeartbeats 400000 in
theorem faultI_any (c x : Int) (w : World) :
    Calls Tryz.prog 56 #[.int .i64 c, .int .i64 x] w fun e w' => AnsFaultI c x w id e w' ∧ Below w.heap.size w w' := by
  go_enter Tryz.func56, Tryz.ntmps56
  repeat (first | go_values | go_skip | go_guarded | go_step | go_upon)
  go_ret
  exact ⟨⟨_, rfl, heap_alloc_new _ _, Nat.le_refl _⟩, (by repeat (first | exact Below.refl _ _ | assumption | refine bal ?_ _ | refine bdr ?_ | refine bdrn ?_ _ | (refine bset ?_ (by first | exact Nat.le_refl _ | (simp; done) | (simp; omega) | omega) _) | refine bstep ?_ (by assumption)))⟩
set_option maxRecDepth 100000 in
set_option maxHeartbeats 1600000 in
theorem tokens_long (S : ByteArray) (w : World) (h8 : 8192 < S.size) (hs : S.size ≤ 140737488355328) :
    Calls Tryz.prog 41 #[.string S] w (fun e w' => AnsFaultI 2 (-1) w (fun x => .tuple #[.slice none 0 0, x]) e w' ∧ Below w.heap.size w w') := by
  have d1 : decide ((8192 : Int) < S.size) = true := by simp; omega
  go_enter Tryz.func41, Tryz.ntmps41
  repeat (first | go_values | go_skip | go_guarded | go_step | go_upon)
  refine (faultI_any _ _ _).mono ?_
  rintro e w1 ⟨⟨p, rfl, hp, hl⟩, hb1⟩
  dsimp only [id]
  repeat (first | go_values | go_skip | go_guarded | go_step | go_upon)
  go_ret2
  exact ⟨⟨p, rfl, hp, hl⟩, hb1⟩
/-- The tokens of any source, or what is wrong, and where. -/
def lexed (s : List UInt8) : (Nat × Int) ⊕ List Tok :=
  if 8192 < s.length then .inl (2, -1) else match toks s with
    | .inl er => .inl (er.1, (er.2 : Int))
    | .inr l => .inr l
theorem lexed_inr {s : List UInt8} {l : List Tok} (h : lexed s = .inr l) : s.length ≤ 8192 ∧ toks s = .inr l := by
  unfold lexed at h
  split at h
  · cases h
  · split at h
    · cases h
    · next e => exact ⟨by omega, by rw [e, Sum.inr.inj h]⟩
theorem lexed_toks {s : List UInt8} {l : List Tok} (h8 : s.length ≤ 8192) (h : toks s = .inr l) : lexed s = .inr l := by
  rw [lexed, if_neg (by omega), h]
theorem lexed_bad {s : List UInt8} {er : Nat × Nat} (h8 : s.length ≤ 8192) (h : toks s = .inl er) : lexed s = .inl (er.1, (er.2 : Int)) := by
  rw [lexed, if_neg (by omega), h]
theorem lexed_big {s : List UInt8} (h8 : 8192 < s.length) : lexed s = .inl (2, -1) := by
  rw [lexed, if_pos h8]
theorem lexed_ok (S : ByteArray) (w : World) (hg : Laid w) {l : List Tok} (h : lexed (bl S) = .inr l) :
    Calls Tryz.prog 41 #[.string S] w (fun e w' => ∃ v, e = .returned (.tuple #[v, .nilIface]) ∧ w'.ownsRow w.heap.size 96 7 v l.length (tokCells l) ∧ Below w.heap.size w w') := by
  obtain ⟨h1, h2⟩ := lexed_inr h
  exact tokens_ok S w hg (by rw [← bl_length]; exact h1) h2
theorem lexed_no (S : ByteArray) (w : World) (hg : Laid w) (hs : S.size ≤ 140737488355328) {er : Nat × Int} (h : lexed (bl S) = .inl er) :
    Calls Tryz.prog 41 #[.string S] w (fun e w' => AnsFaultI er.1 er.2 w (fun x => .tuple #[.slice none 0 0, x]) e w' ∧ Below w.heap.size w w') := by
  have hlen := bl_length S
  unfold lexed at h
  split at h
  · next h8 =>
    have e := Sum.inl.inj h
    subst e
    exact tokens_long S w (by omega) hs
  · next h8 =>
    split at h
    · next er2 ht =>
      have e := Sum.inl.inj h
      subst e
      exact tokens_no S w hg (by omega) ht
    · cases h
end Go.Proofs.YtjlcoldnhbkcgaaGreatDoor
namespace Go.Proofs.YtjlcoldnhbkcgaaGreatDoor
open Go.RowKit Go.Sort

theorem guard_tok : Tryz.prog.eqGuardType Tryz.prog.depth 96 = false := by kernel_rfl
theorem equal_clD (w : World) (a0 a1 a2 a3 b0 b1 b2 b3 : Int) :
    (Op.equalIn 9999 37 (.agg #[.int .u64 a0, .int .u64 a1, .int .u64 a2, .int .u64 a3]) (.agg #[.int .u64 b0, .int .u64 b1, .int .u64 b2, .int .u64 b3])).run Tryz.prog w = .ok (a0 == b0 && (a1 == b1 && (a2 == b2 && a3 == b3))) w := by
  have e := fun (x y : Int) (w : World) => run_equalIn_int (P := Tryz.prog) w 9997 35 .u64 .u64 x y Tryz.underlying35
  rw [show 9999 = 9998 + 1 from rfl]
  unfold Op.equalIn
  simp only [Sem.run_bind, run_underlying Tryz.underlying37, Result.andThen_ok, size_word]
  simp [List.range', part, Sem.run_bind, e]
  by_cases h0 : a0 = b0 <;> by_cases h1 : a1 = b1 <;> by_cases h2 : a2 = b2 <;> by_cases h3 : a3 = b3 <;> simp [h0, h1, h2, h3]
theorem equal_tok (w : World) (a p : Int) (x : ByteArray) (c0 c1 c2 c3 : Int) : (Op.equalIn 10000 96 (.agg #[.int .i64 a, .string x, .int .u64 c0, .int .u64 c1, .int .u64 c2, .int .u64 c3, .int .i64 p]) (.agg #[.int .i64 a, .string x, .int .u64 c0, .int .u64 c1, .int .u64 c2, .int .u64 c3, .int .i64 p])).run Tryz.prog w = .ok true w := by
  have e1 := fun (x y : Int) (w : World) => run_equalIn_int (P := Tryz.prog) w 9998 3 .i64 .i64 x y Tryz.underlying3
  have e2 := fun (x y : ByteArray) (w : World) => run_equalIn_string (P := Tryz.prog) w 9998 9 x y Tryz.underlying9
  rw [show 10000 = 9998 + 1 + 1 from rfl, run_equalIn_struct (P := Tryz.prog) w _ 96 _ _ (by kernel_rfl) (by kernel_rfl)]
  simp only [Program.fieldsOf, Tryz.underlying96]
  simp only [Nat.reduceAdd] at e1 e2
  simp [Op.eqFields, part, Sem.run_bind, e1, e2, equal_clD]
end Go.Proofs.YtjlcoldnhbkcgaaGreatDoor
namespace Go.Proofs.YtjlcoldnhbkcgaaGreatDoor
open Go.RowKit Go.Sort

theorem tokCells_len (l : List Tok) : (tokCells l).length = l.length * 7 := by
  induction l with
  | nil => rfl
  | cons t l ih => rw [tokCells, List.length_append, ih, List.length_cons]; simp [tokC]; omega
theorem tokCells_get {l : List Tok} {k : Nat} {t : Tok} (h : l[k]? = some t) (j : Nat) (hj : j < 7) : (tokCells l)[k * 7 + j]? = (tokC t)[j]? := by
  induction l generalizing k with
  | nil => simp at h
  | cons u l ih =>
    cases k with
    | zero =>
      simp at h
      subst h
      rw [tokCells, Nat.zero_mul, Nat.zero_add, List.getElem?_append_left (by simp [tokC]; omega)]
    | succ k =>
      simp at h
      rw [tokCells, List.getElem?_append_right (by simp [tokC]; omega), ← ih h]
      congr 1
      simp [tokC]
      omega
/-- The cells of a token in a row. -/
theorem tok_at {w : World} {B g cap : Nat} {l : List Tok} {n : Nat} (h : w.ownsRow B 96 7 (.slice (some ⟨g, 0, none⟩) n cap) n (tokCells l)) (hn : l.length = n) {k : Nat} {t : Tok} (hk : l[k]? = some t) :
    w.cell? ⟨g, k * 7, none⟩ = some (.int .i64 (t.kind : Int)) ∧ w.cell? ⟨g, k * 7 + 1, none⟩ = some (.string (mkS t.text)) ∧ w.cell? ⟨g, k * 7 + 2, none⟩ = some (.int .u64 (wd t.cls 0)) ∧ w.cell? ⟨g, k * 7 + 3, none⟩ = some (.int .u64 (wd t.cls 1)) ∧ w.cell? ⟨g, k * 7 + 4, none⟩ = some (.int .u64 (wd t.cls 2)) ∧ w.cell? ⟨g, k * 7 + 5, none⟩ = some (.int .u64 (wd t.cls 3)) ∧ w.cell? ⟨g, k * 7 + 6, none⟩ = some (.int .i64 (t.pos : Int)) := by
  have hlt : k < l.length := (List.getElem?_eq_some_iff.1 hk).1
  have key : ∀ j, j < 7 → w.cell? ⟨g, k * 7 + j, none⟩ = (tokC t)[j]? := fun j hj => by rw [h.cellAt _ (by omega), tokCells_get hk j hj]
  exact ⟨key 0 (by decide), key 1 (by decide), key 2 (by decide), key 3 (by decide), key 4 (by decide), key 5 (by decide), key 6 (by decide)⟩
end Go.Proofs.YtjlcoldnhbkcgaaGreatDoor
