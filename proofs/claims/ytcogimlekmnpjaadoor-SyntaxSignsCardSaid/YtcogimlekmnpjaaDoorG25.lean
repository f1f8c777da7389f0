/- Any tree, as it lies among the arguments or in new memory: plain. | A tree that was read, as any tree; two trees that are the same. | Two trees compared as they lie anywhere: where they are the same, with or without their places. -/
import Derived.Test.YtcogimlekmnpjaaDoorG1
import Derived.Test.YtcogimlekmnpjaaDoorG0
import Derived.Test.YtcogimlekmnpjaaDoorG24
import Derived.Test.YtcogimlekmnpjaaDoorG16
namespace Go.Proofs.YtcogimlekmnpjaaDoor
open Go.RowKit Go.Sort

/-- A node of any tree. -/
inductive Tr where
  | mk (kind : Int) (text : List UInt8) (cls : BitVec 256) (subs : List Tr) (pos : Int)
/-- The cells of a node whose parts are that slice. -/
def trC (k : Int) (t : List UInt8) (c : BitVec 256) (v : Value) (p : Int) : List Value := [.int .i64 k, .string (mkS t), .int .u64 (wd c 0), .int .u64 (wd c 1), .int .u64 (wd c 2), .int .u64 (wd c 3), v, .int .i64 p]
mutual
/-- These cells are that tree, in these blocks. -/
inductive RepA (w : World) (P : Nat → Prop) : Tr → List Value → Prop
  | mk {k : Int} {t : List UInt8} {c : BitVec 256} {l : List Tr} {p : Int} {v : Value} : RepL w P l v → RepA w P (.mk k t c l p) (trC k t c v p)
inductive RepL (w : World) (P : Nat → Prop) : List Tr → Value → Prop
  | null : RepL w P [] (.slice none 0 0)
  | zero {a : Addr} {cap : Nat} : RepL w P [] (.slice (some a) 0 cap)
  | row {l : List Tr} {g o cap : Nat} : P g → 0 < l.length → l.length ≤ cap → l.length ≤ maxLen → RepC w P g o l → RepL w P l (.slice (some ⟨g, o, none⟩) l.length cap)
inductive RepC (w : World) (P : Nat → Prop) : Nat → Nat → List Tr → Prop
  | nil {g o : Nat} : RepC w P g o []
  | cons {g o : Nat} {n : Tr} {l : List Tr} {cs : List Value} : (∀ j, j < 8 → w.cell? ⟨g, o + j, none⟩ = cs[j]?) → RepA w P n cs → RepC w P g (o + 8) l → RepC w P g o (n :: l)
end
theorem cell_block {w w' : World} {a : Addr} (h : w'.heap[a.block]? = w.heap[a.block]?) : w'.cell? a = w.cell? a := by unfold World.cell?; rw [h]
mutual
theorem RepA.mono {w w' : World} {P P' : Nat → Prop} (hb : ∀ b, P b → w'.heap[b]? = w.heap[b]?) (hP : ∀ b, P b → P' b) {n : Tr} {c : List Value} : RepA w P n c → RepA w' P' n c
  | .mk h => .mk (RepL.mono hb hP h)
theorem RepL.mono {w w' : World} {P P' : Nat → Prop} (hb : ∀ b, P b → w'.heap[b]? = w.heap[b]?) (hP : ∀ b, P b → P' b) {l : List Tr} {v : Value} : RepL w P l v → RepL w' P' l v
  | .null => .null
  | .zero => .zero
  | .row h1 h2 h3 h4 h5 => .row (hP _ h1) h2 h3 h4 (RepC.mono hb hP h1 h5)
theorem RepC.mono {w w' : World} {P P' : Nat → Prop} (hb : ∀ b, P b → w'.heap[b]? = w.heap[b]?) (hP : ∀ b, P b → P' b) {g o : Nat} {l : List Tr} (hg : P g) : RepC w P g o l → RepC w' P' g o l
  | .nil => .nil
  | .cons h1 h2 h3 => .cons (fun j hj => (cell_block (a := ⟨g, o + j, none⟩) (hb g hg)).trans (h1 j hj)) (RepA.mono hb hP h2) (RepC.mono hb hP hg h3)
end
theorem RepA.form {w : World} {P : Nat → Prop} {n : Tr} {c : List Value} (h : RepA w P n c) : ∃ k t x v l p, n = .mk k t x l p ∧ c = trC k t x v p ∧ RepL w P l v := by
  cases h with
  | mk h => exact ⟨_, _, _, _, _, _, rfl, rfl, h⟩
theorem RepL.slice {w : World} {P : Nat → Prop} {l : List Tr} {v : Value} (h : RepL w P l v) : ∃ a cap, v = .slice a l.length cap ∧ l.length ≤ cap ∧ l.length ≤ maxLen := by
  cases h with
  | null => exact ⟨_, _, rfl, Nat.le_refl _, Nat.zero_le _⟩
  | zero => exact ⟨_, _, rfl, Nat.zero_le _, Nat.zero_le _⟩
  | row h1 h2 h3 h4 h5 => exact ⟨_, _, rfl, h3, h4⟩
theorem RepL.parts {w : World} {P : Nat → Prop} {l : List Tr} {v : Value} (h : RepL w P l v) : (l = [] ∧ v = .slice none 0 0) ∨ (l = [] ∧ ∃ a cap, v = .slice (some a) 0 cap) ∨ ∃ g o cap, v = .slice (some ⟨g, o, none⟩) l.length cap ∧ P g ∧ 0 < l.length ∧ l.length ≤ cap ∧ l.length ≤ maxLen ∧ RepC w P g o l := by
  cases h with
  | null => exact .inl ⟨rfl, rfl⟩
  | zero => exact .inr (.inl ⟨rfl, _, _, rfl⟩)
  | row h1 h2 h3 h4 h5 => exact .inr (.inr ⟨_, _, _, rfl, h1, h2, h3, h4, h5⟩)
/-- A part, as its cells lie in the row. -/
theorem RepC.get {w : World} {P : Nat → Prop} {l : List Tr} : ∀ {g o : Nat}, RepC w P g o l → ∀ {i : Nat} {x : Tr}, l[i]? = some x → ∃ k t c sa sn sc p l', x = .mk k t c l' p ∧ RepA w P x (trC k t c (.slice sa sn sc) p) ∧ RepL w P l' (.slice sa sn sc) ∧ w.cell? ⟨g, o + i * 8, none⟩ = some (.int .i64 k) ∧ w.cell? ⟨g, o + i * 8 + 1, none⟩ = some (.string (mkS t)) ∧ w.cell? ⟨g, o + i * 8 + 2, none⟩ = some (.int .u64 (wd c 0)) ∧ w.cell? ⟨g, o + i * 8 + 3, none⟩ = some (.int .u64 (wd c 1)) ∧ w.cell? ⟨g, o + i * 8 + 4, none⟩ = some (.int .u64 (wd c 2)) ∧ w.cell? ⟨g, o + i * 8 + 5, none⟩ = some (.int .u64 (wd c 3)) ∧ w.cell? ⟨g, o + i * 8 + 6, none⟩ = some (.slice sa sn sc) ∧ w.cell? ⟨g, o + i * 8 + 7, none⟩ = some (.int .i64 p) := by
  induction l with
  | nil => intro g o _ i x hi; simp at hi
  | cons m l ih =>
    intro g o h i x hi
    cases h with
    | cons h1 h2 h3 =>
      cases i with
      | zero =>
        simp at hi
        subst hi
        obtain ⟨k, t, c, v, l', p, e1, e2, h4⟩ := h2.form
        obtain ⟨a, cap, rfl, _⟩ := h4.slice
        subst e2
        subst e1
        refine ⟨k, t, c, a, _, cap, p, l', rfl, h2, h4, ?_⟩
        have key : ∀ j, j < 8 → w.cell? ⟨g, o + 0 * 8 + j, none⟩ = (trC k t c (.slice a l'.length cap) p)[j]? := fun j hj => by rw [Nat.zero_mul, Nat.add_zero]; exact h1 j hj
        exact ⟨key 0 (by decide), key 1 (by decide), key 2 (by decide), key 3 (by decide), key 4 (by decide), key 5 (by decide), key 6 (by decide), key 7 (by decide)⟩
      | succ i =>
        have := ih h3 (by simpa using hi)
        rw [show o + 8 + i * 8 = o + (i + 1) * 8 by omega] at this
        exact this
theorem RepC.snoc {w : World} {P : Nat → Prop} {l : List Tr} : ∀ {g o : Nat} {n : Tr} {cs : List Value}, RepC w P g o l → (∀ j, j < 8 → w.cell? ⟨g, o + l.length * 8 + j, none⟩ = cs[j]?) → RepA w P n cs → RepC w P g o (l ++ [n]) := by
  induction l with
  | nil =>
    intro g o n cs _ h2 h3
    refine .cons (fun j hj => ?_) h3 .nil
    have := h2 j hj
    simpa using this
  | cons m l ih =>
    intro g o n cs h1 h2 h3
    cases h1 with
    | cons g1 g2 g3 =>
      refine .cons g1 g2 (ih g3 (fun j hj => ?_) h3)
      have := h2 j hj
      rw [List.length_cons] at this
      rw [← this]
      congr 2
      omega
theorem RepA.under {w w' : World} {n : Tr} {c : List Value} (h : RepA w (fun b => b < w.heap.size) n c) (hb : Below w.heap.size w w') : RepA w' (fun b => b < w'.heap.size) n c := h.mono (fun b hb' => hb.block b hb') (fun _ h => Nat.lt_of_lt_of_le h hb.size)
theorem RepA.on {w w' : World} {P : Nat → Prop} {n : Tr} {c : List Value} (h : RepA w P n c) (hP : ∀ b, P b → b < w.heap.size) (hb : Below w.heap.size w w') : RepA w' P n c := h.mono (fun b hb' => hb.block b (hP b hb')) (fun _ h => h)
mutual
/-- The same tree; with its places, if asked for. -/
inductive SameT (at_ : Bool) : Tr → Tr → Prop
  | mk {k p p' : Int} {t : List UInt8} {c : BitVec 256} {l l' : List Tr} : (at_ = true → p = p') → SameU at_ l l' → SameT at_ (.mk k t c l p) (.mk k t c l' p')
inductive SameU (at_ : Bool) : List Tr → List Tr → Prop
  | nil : SameU at_ [] []
  | cons {n n' : Tr} {l l' : List Tr} : SameT at_ n n' → SameU at_ l l' → SameU at_ (n :: l) (n' :: l')
end
mutual
theorem SameT.refl (b : Bool) : ∀ n : Tr, SameT b n n
  | .mk _ _ _ l _ => .mk (fun _ => rfl) (SameU.refl b l)
theorem SameU.refl (b : Bool) : ∀ l : List Tr, SameU b l l
  | [] => .nil
  | n :: l => .cons (SameT.refl b n) (SameU.refl b l)
end
theorem SameU.length {b : Bool} {l l' : List Tr} (h : SameU b l l') : l.length = l'.length := by
  induction l generalizing l' with
  | nil => cases h; rfl
  | cons n l ih => cases h with
    | cons h1 h2 => simp [ih h2]
theorem SameU.get {b : Bool} {l l' : List Tr} (h : SameU b l l') {k : Nat} {n n' : Tr} (h1 : l[k]? = some n) (h2 : l'[k]? = some n') : SameT b n n' := by
  induction l generalizing l' k with
  | nil => cases h; simp at h1
  | cons m l ih => cases h with
    | cons g1 g2 =>
      cases k with
      | zero => simp at h1 h2; rw [← h1, ← h2]; exact g1
      | succ k => exact ih g2 (by simpa using h1) (by simpa using h2)
/-- A rule. -/
structure Rr where
  name : List UInt8
  body : Tr
  pos : Int
/-- The cells from a place on are those rules. -/
inductive RepR (w : World) (P : Nat → Prop) : Nat → Nat → List Rr → Prop
  | nil {g o : Nat} : RepR w P g o []
  | cons {g o : Nat} {r : Rr} {l : List Rr} {cs : List Value} : (∀ j, j < 10 → w.cell? ⟨g, o + j, none⟩ = (Value.string (mkS r.name) :: (cs ++ [.int .i64 r.pos]))[j]?) → RepA w P r.body cs → RepR w P g (o + 10) l → RepR w P g o (r :: l)
/-- A slice that is those rules. -/
inductive RepGr (w : World) (P : Nat → Prop) : List Rr → Value → Prop
  | null : RepGr w P [] (.slice none 0 0)
  | zero {a : Addr} {cap : Nat} : RepGr w P [] (.slice (some a) 0 cap)
  | row {l : List Rr} {g o cap : Nat} : P g → 0 < l.length → l.length ≤ cap → l.length ≤ maxLen → RepR w P g o l → RepGr w P l (.slice (some ⟨g, o, none⟩) l.length cap)
theorem RepR.mono {w w' : World} {P P' : Nat → Prop} (hb : ∀ b, P b → w'.heap[b]? = w.heap[b]?) (hP : ∀ b, P b → P' b) {g o : Nat} {l : List Rr} (hg : P g) (h : RepR w P g o l) : RepR w' P' g o l := by
  induction h with
  | nil => exact .nil
  | cons h1 h2 _ ih => exact .cons (fun j hj => (cell_block (a := ⟨_, _, none⟩) (hb _ hg)).trans (h1 j hj)) (h2.mono hb hP) ih
theorem RepGr.mono {w w' : World} {P P' : Nat → Prop} (hb : ∀ b, P b → w'.heap[b]? = w.heap[b]?) (hP : ∀ b, P b → P' b) {l : List Rr} {v : Value} (h : RepGr w P l v) : RepGr w' P' l v := by
  cases h with
  | null => exact .null
  | zero => exact .zero
  | row h1 h2 h3 h4 h5 => exact .row (hP _ h1) h2 h3 h4 (h5.mono hb hP h1)
theorem RepGr.under {w w' : World} {l : List Rr} {v : Value} (h : RepGr w (fun b => b < w.heap.size) l v) (hb : Below w.heap.size w w') : RepGr w' (fun b => b < w'.heap.size) l v := h.mono (fun b hb' => hb.block b hb') (fun _ h => Nat.lt_of_lt_of_le h hb.size)
theorem RepGr.on {w w' : World} {P : Nat → Prop} {l : List Rr} {v : Value} (h : RepGr w P l v) (hP : ∀ b, P b → b < w.heap.size) (hb : Below w.heap.size w w') : RepGr w' P l v := h.mono (fun b hb' => hb.block b (hP b hb')) (fun _ h => h)
theorem RepGr.slice {w : World} {P : Nat → Prop} {l : List Rr} {v : Value} (h : RepGr w P l v) : ∃ a cap, v = .slice a l.length cap ∧ l.length ≤ cap ∧ l.length ≤ maxLen := by
  cases h with
  | null => exact ⟨_, _, rfl, Nat.le_refl _, Nat.zero_le _⟩
  | zero => exact ⟨_, _, rfl, Nat.zero_le _, Nat.zero_le _⟩
  | row h1 h2 h3 h4 h5 => exact ⟨_, _, rfl, h3, h4⟩
theorem RepGr.parts {w : World} {P : Nat → Prop} {l : List Rr} {v : Value} (h : RepGr w P l v) : (l = [] ∧ v = .slice none 0 0) ∨ (l = [] ∧ ∃ a cap, v = .slice (some a) 0 cap) ∨ ∃ g o cap, v = .slice (some ⟨g, o, none⟩) l.length cap ∧ P g ∧ 0 < l.length ∧ l.length ≤ cap ∧ l.length ≤ maxLen ∧ RepR w P g o l := by
  cases h with
  | null => exact .inl ⟨rfl, rfl⟩
  | zero => exact .inr (.inl ⟨rfl, _, _, rfl⟩)
  | row h1 h2 h3 h4 h5 => exact .inr (.inr ⟨_, _, _, rfl, h1, h2, h3, h4, h5⟩)
/-- A rule, as its cells lie in the row. -/
theorem RepR.get {w : World} {P : Nat → Prop} {l : List Rr} : ∀ {g o : Nat}, RepR w P g o l → ∀ {i : Nat} {x : Rr}, l[i]? = some x → ∃ k t c sa sn sc p l', x.body = .mk k t c l' p ∧ RepA w P x.body (trC k t c (.slice sa sn sc) p) ∧ RepL w P l' (.slice sa sn sc) ∧ w.cell? ⟨g, o + i * 10, none⟩ = some (.string (mkS x.name)) ∧ w.cell? ⟨g, o + i * 10 + 1, none⟩ = some (.int .i64 k) ∧ w.cell? ⟨g, o + i * 10 + 1 + 1, none⟩ = some (.string (mkS t)) ∧ w.cell? ⟨g, o + i * 10 + 1 + 2, none⟩ = some (.int .u64 (wd c 0)) ∧ w.cell? ⟨g, o + i * 10 + 1 + 3, none⟩ = some (.int .u64 (wd c 1)) ∧ w.cell? ⟨g, o + i * 10 + 1 + 4, none⟩ = some (.int .u64 (wd c 2)) ∧ w.cell? ⟨g, o + i * 10 + 1 + 5, none⟩ = some (.int .u64 (wd c 3)) ∧ w.cell? ⟨g, o + i * 10 + 1 + 6, none⟩ = some (.slice sa sn sc) ∧ w.cell? ⟨g, o + i * 10 + 1 + 7, none⟩ = some (.int .i64 p) ∧ w.cell? ⟨g, o + i * 10 + 9, none⟩ = some (.int .i64 x.pos) := by
  induction l with
  | nil => intro g o _ i x hi; simp at hi
  | cons m l ih =>
    intro g o h i x hi
    cases h with
    | cons h1 h2 h3 =>
      cases i with
      | zero =>
        simp at hi
        subst hi
        obtain ⟨k, t, c, v, l', p, e1, e2, h4⟩ := h2.form
        obtain ⟨a, cap, rfl, _⟩ := h4.slice
        subst e2
        refine ⟨k, t, c, a, _, cap, p, l', e1, h2, h4, ?_⟩
        have key : ∀ j, j < 10 → w.cell? ⟨g, o + 0 * 10 + j, none⟩ = (Value.string (mkS m.name) :: (trC k t c (.slice a l'.length cap) p ++ [.int .i64 m.pos]))[j]? := fun j hj => by rw [Nat.zero_mul, Nat.add_zero]; exact h1 j hj
        exact ⟨key 0 (by decide), key 1 (by decide), key 2 (by decide), key 3 (by decide), key 4 (by decide), key 5 (by decide), key 6 (by decide), key 7 (by decide), key 8 (by decide), key 9 (by decide)⟩
      | succ i =>
        have := ih h3 (by simpa using hi)
        rw [show o + 10 + i * 10 = o + (i + 1) * 10 by omega] at this
        exact this
theorem RepR.snoc {w : World} {P : Nat → Prop} {l : List Rr} : ∀ {g o : Nat} {r : Rr} {cs : List Value}, RepR w P g o l → (∀ j, j < 10 → w.cell? ⟨g, o + l.length * 10 + j, none⟩ = (Value.string (mkS r.name) :: (cs ++ [.int .i64 r.pos]))[j]?) → RepA w P r.body cs → RepR w P g o (l ++ [r]) := by
  induction l with
  | nil =>
    intro g o n cs _ h2 h3
    refine .cons (fun j hj => ?_) h3 .nil
    have := h2 j hj
    simpa using this
  | cons m l ih =>
    intro g o n cs h1 h2 h3
    cases h1 with
    | cons g1 g2 g3 =>
      refine .cons g1 g2 (ih g3 (fun j hj => ?_) h3)
      have := h2 j hj
      rw [List.length_cons] at this
      rw [← this]
      congr 2
      omega
/-- The same rules; with their places, if asked for. -/
inductive SameR (at_ : Bool) : List Rr → List Rr → Prop
  | nil : SameR at_ [] []
  | cons {n : List UInt8} {b b' : Tr} {p p' : Int} {l l' : List Rr} : SameT at_ b b' → (at_ = true → p = p') → SameR at_ l l' → SameR at_ (⟨n, b, p⟩ :: l) (⟨n, b', p'⟩ :: l')
theorem SameR.refl (b : Bool) (l : List Rr) : SameR b l l := by
  induction l with
  | nil => exact .nil
  | cons x l ih => exact .cons (SameT.refl b _) (fun _ => rfl) ih
theorem SameR.length {b : Bool} {l l' : List Rr} (h : SameR b l l') : l.length = l'.length := by
  induction h with
  | nil => rfl
  | cons _ _ _ ih => simp [ih]
theorem SameR.get {b : Bool} {l l' : List Rr} (h : SameR b l l') {k : Nat} {x x' : Rr} (h1 : l[k]? = some x) (h2 : l'[k]? = some x') : x.name = x'.name ∧ SameT b x.body x'.body ∧ (b = true → x.pos = x'.pos) := by
  induction h generalizing k with
  | nil => simp at h1
  | cons g1 g2 g3 ih =>
    cases k with
    | zero => simp at h1 h2; rw [← h1, ← h2]; exact ⟨rfl, g1, g2⟩
    | succ k => exact ih (by simpa using h1) (by simpa using h2)
end Go.Proofs.YtcogimlekmnpjaaDoor
namespace Go.Proofs.YtcogimlekmnpjaaDoor
open Go.RowKit Go.Sort

mutual
/-- A tree that was read, as any tree. -/
def Nd.tr : Nd → Tr
  | .mk k t c l p => .mk (k : Int) t c (Nd.trs l) (p : Int)
def Nd.trs : List Nd → List Tr
  | [] => []
  | n :: l => n.tr :: Nd.trs l
end
theorem Nd.trs_length (l : List Nd) : (Nd.trs l).length = l.length := by
  induction l with
  | nil => rfl
  | cons n l ih => simp [Nd.trs, ih]
mutual
theorem Rep.anyT {w : World} {P : Nat → Prop} {n : Nd} {c : List Value} : Rep w P n c → RepA w P n.tr c
  | .mk h => by rw [Nd.tr]; exact .mk (RepS.anyT h)
theorem RepS.anyT {w : World} {P : Nat → Prop} {l : List Nd} {v : Value} : RepS w P l v → RepL w P (Nd.trs l) v
  | .nil => by rw [Nd.trs]; exact .null
  | @RepS.row _ _ l g cap cur cs h1 h2 h3 h4 hm h5 h6 => by
    have h := RepL.row (w := w) (P := P) (l := Nd.trs l) (g := g) (o := 0) (cap := cap) h1 (by rw [Nd.trs_length]; exact h3) (by rw [Nd.trs_length]; exact h4) (by rw [Nd.trs_length]; exact hm) (Reps.anyT g 0 h6 (fun j hj => by
      rw [(cells_at h2).1, ← h5, List.getElem?_take, if_pos (by rw [← h6.length]; exact hj), Array.getElem?_toList, Nat.zero_add]))
    rw [Nd.trs_length] at h
    exact h
theorem Reps.anyT {w : World} {P : Nat → Prop} {l : List Nd} {cs : List Value} (g o : Nat) : Reps w P l cs → (∀ j, j < cs.length → w.cell? ⟨g, o + j, none⟩ = cs[j]?) → RepC w P g o (Nd.trs l)
  | .nil, _ => by rw [Nd.trs]; exact .nil
  | @Reps.cons _ _ n l c cs h1 h2, hc => by
    rw [Nd.trs]
    have h8 : c.length = 8 := by cases h1; rfl
    refine .cons (cs := c) (fun j hj => ?_) (Rep.anyT h1) (Reps.anyT g (o + 8) h2 (fun j hj => ?_))
    · rw [hc j (by rw [List.length_append]; omega), List.getElem?_append_left (by omega)]
    · have := hc (8 + j) (by rw [List.length_append]; omega)
      rw [List.getElem?_append_right (by omega), h8, Nat.add_sub_cancel_left] at this
      rw [← this]
      congr 2
      omega
end
end Go.Proofs.YtcogimlekmnpjaaDoor
namespace Go.Proofs.YtcogimlekmnpjaaDoor
open Go.RowKit Go.Sort

theorem allocs_new (w : World) (o o' : Obj) : ((w.alloc o).alloc o').heap[w.heap.size + 1]? = some o' := by
  have h := heap_alloc_new (w.alloc o) o'
  rwa [World.size_alloc] at h
/-- The contract of SameNode at a tree. -/
def SameCT (at_ : Bool) (n : Tr) : Prop := ∀ (m : Tr) (w : World) (P P' : Nat → Prop) (c c' : List Value), SameT at_ n m → RepA w P n c → RepA w P' m c' → (∀ b, P b → b < w.heap.size) → (∀ b, P' b → b < w.heap.size) →
  Calls Tryd.prog 6 #[.agg c.toArray, .agg c'.toArray, .bool at_] w (Ans (.bool true) w)
set_option maxRecDepth 100000 in
set_option maxHeartbeats 3200000 in
theorem sameT_leaf (at_ : Bool) {k p p' : Int} {t : List UInt8} {x : BitVec 256} {a a' : Option Addr} {cap cap' : Nat} (w : World) (hp : at_ = true → p = p') :
    Calls Tryd.prog 6 #[.agg (trC k t x (.slice a 0 cap) p).toArray, .agg (trC k t x (.slice a' 0 cap') p').toArray, .bool at_] w (Ans (.bool true) w) := by
  have f8 := guard_cl
  have f9 := equal_cl
  have hm1 := cell_alloc_lt
  dsimp only [trC]
  cases at_ with
  | false =>
    clear hp
    go_enter Tryd.func6, Tryd.ntmps6
    repeat (first | go_values | go_skip | go_guarded | go_step | go_upon)
    refine wp_loop_rounds 1 ?_
    rw [rounds_succ]
    repeat (first | go_values | go_skip | go_guarded | go_step | go_upon)
    go_ret
    exact ⟨rfl, (by repeat (first | exact Below.refl _ _ | assumption | refine bal ?_ _ | refine bdr ?_ | refine bdrn ?_ _ | (refine bset ?_ (by first | exact Nat.le_refl _ | (simp; done) | (simp; omega) | omega) _) | refine bstep ?_ (by assumption)))⟩
  | true =>
    obtain rfl := hp rfl
    clear hp
    go_enter Tryd.func6, Tryd.ntmps6
    repeat (first | go_values | go_skip | go_guarded | go_step | go_upon)
    refine wp_loop_rounds 1 ?_
    rw [rounds_succ]
    repeat (first | go_values | go_skip | go_guarded | go_step | go_upon)
    go_ret
    exact ⟨rfl, (by repeat (first | exact Below.refl _ _ | assumption | refine bal ?_ _ | refine bdr ?_ | refine bdrn ?_ _ | (refine bset ?_ (by first | exact Nat.le_refl _ | (simp; done) | (simp; omega) | omega) _) | refine bstep ?_ (by assumption)))⟩
set_option maxRecDepth 100000 in
set_option maxHeartbeats 6400000 in
theorem sameT_row (at_ : Bool) {k p p' : Int} {n g g' o o' cap cap' : Nat} {t : List UInt8} {x : BitVec 256} {l l' : List Tr} {P P' : Nat → Prop} (w : World) (hp : at_ = true → p = p') (hl : SameU at_ l l') (hn : l.length = n) (_ : n ≤ cap) (_ : n ≤ cap') (hmax : n ≤ maxLen) (hg : P g) (hg' : P' g') (r1 : RepC w P g o l) (r2 : RepC w P' g' o' l') (hP : ∀ b, P b → b < w.heap.size) (hP' : ∀ b, P' b → b < w.heap.size) (IH : ∀ m ∈ l, SameCT at_ m) :
    Calls Tryd.prog 6 #[.agg (trC k t x (.slice (some ⟨g, o, none⟩) n cap) p).toArray, .agg (trC k t x (.slice (some ⟨g', o', none⟩) n cap') p').toArray, .bool at_] w (Ans (.bool true) w) := by
  have f8 := guard_cl
  have f9 := equal_cl
  have hm1 := cell_alloc_lt
  have HL := Lib.hid hl
  have HN := Lib.hid hn
  have hn' : l'.length = n := by rw [← hl.length]; exact hn
  have HN' := Lib.hid hn'
  have R1 := Lib.hid r1
  have R2 := Lib.hid r2
  have HG := Lib.hid hg
  have HG' := Lib.hid hg'
  have HP := Lib.hid hP
  have HP' := Lib.hid hP'
  have HI := Lib.hid IH
  have lg := hP g hg
  have lg' := hP' g' hg'
  unfold maxLen at hmax
  clear hl hn hn' r1 r2 hg hg' hP hP' IH
  dsimp only [trC]
  cases at_ with
  | false =>
    clear hp
    go_enter Tryd.func6, Tryd.ntmps6
    repeat (first | go_values | go_skip | go_guarded | go_step | go_upon)
    go_loopw [7] (fun tt wr => ∃ j : Nat, tt = .int .i64 (j : Int) ∧ j ≤ n ∧ Below ((w.alloc (.cells #[.int .i64 k, .string (mkS t), .int .u64 (wd x 0), .int .u64 (wd x 1), .int .u64 (wd x 2), .int .u64 (wd x 3), .slice (some ⟨g, o, none⟩) n cap, .int .i64 p] 36)).alloc (.cells #[.int .i64 k, .string (mkS t), .int .u64 (wd x 0), .int .u64 (wd x 1), .int .u64 (wd x 2), .int .u64 (wd x 3), .slice (some ⟨g', o', none⟩) n cap', .int .i64 p'] 36)).heap.size ((w.alloc (.cells #[.int .i64 k, .string (mkS t), .int .u64 (wd x 0), .int .u64 (wd x 1), .int .u64 (wd x 2), .int .u64 (wd x 3), .slice (some ⟨g, o, none⟩) n cap, .int .i64 p] 36)).alloc (.cells #[.int .i64 k, .string (mkS t), .int .u64 (wd x 0), .int .u64 (wd x 1), .int .u64 (wd x 2), .int .u64 (wd x 3), .slice (some ⟨g', o', none⟩) n cap', .int .i64 p'] 36)) wr) (fun tt _ => n - (intOf tt).toNat)
    case atStart => exact ⟨0, rfl, Nat.zero_le _, Below.refl _ _⟩
    case round =>
      obtain ⟨j, rfl, hj, hbr⟩ := hrel
      have HB := Lib.hid hbr
      have hA := (hbr.block w.heap.size (by simp; omega)).trans ((RowKit.Below.heap_alloc _ _ _ (by simp)).trans (heap_alloc_new w (.cells #[.int .i64 k, .string (mkS t), .int .u64 (wd x 0), .int .u64 (wd x 1), .int .u64 (wd x 2), .int .u64 (wd x 3), .slice (some ⟨g, o, none⟩) n cap, .int .i64 p] 36)))
      have hB := (hbr.block (w.heap.size + 1) (by simp)).trans (allocs_new w (.cells #[.int .i64 k, .string (mkS t), .int .u64 (wd x 0), .int .u64 (wd x 1), .int .u64 (wd x 2), .int .u64 (wd x 3), .slice (some ⟨g, o, none⟩) n cap, .int .i64 p] 36) (.cells #[.int .i64 k, .string (mkS t), .int .u64 (wd x 0), .int .u64 (wd x 1), .int .u64 (wd x 2), .int .u64 (wd x 3), .slice (some ⟨g', o', none⟩) n cap', .int .i64 p'] 36))
      have s1 : wr.cell? ⟨w.heap.size, 6, none⟩ = some (.slice (some ⟨g, o, none⟩) n cap) := (cells_at hA).1 6
      have s2 : wr.cell? ⟨w.heap.size + 1, 6, none⟩ = some (.slice (some ⟨g', o', none⟩) n cap') := (cells_at hB).1 6
      have hw : Below w.heap.size w wr := (bal (bal (Below.refl _ w) _) _).trans (hbr.mono (by simp; omega))
      have HW := Lib.hid hw
      clear hA hB hbr hw
      by_cases hlt : j < n
      · obtain ⟨y, hy⟩ : ∃ y, l[j]? = some y := ⟨l[j]'(by rw [HN.out]; exact hlt), List.getElem?_eq_getElem (by rw [HN.out]; exact hlt)⟩
        obtain ⟨y', hy'⟩ : ∃ y', l'[j]? = some y' := ⟨l'[j]'(by rw [HN'.out]; exact hlt), List.getElem?_eq_getElem (by rw [HN'.out]; exact hlt)⟩
        obtain ⟨k1, t1, x1, sa, sn, sc, p1, l1, _, q0, _, a0, a1, a2, a3, a4, a5, a6, a7⟩ := (R1.out.mono (w' := wr) (P' := P) (fun b hb => HW.out.block b (HP.out b hb)) (fun _ h => h) HG.out).get hy
        obtain ⟨k2, t2, x2, sa2, sn2, sc2, p2, l2, _, q0', _, b0, b1, b2, b3, b4, b5, b6, b7⟩ := (R2.out.mono (w' := wr) (P' := P') (fun b hb => HW.out.block b (HP'.out b hb)) (fun _ h => h) HG'.out).get hy'
        have hz := HW.out.size
        have HC := Lib.hid (fun (w' : World) (e : w'.heap = wr.heap) => HI.out y (List.mem_of_getElem? hy) y' w' P P' _ _ (HL.out.get hy hy') (q0.mono (w' := w') (fun b _ => by rw [e]) (fun _ h => h)) (q0'.mono (w' := w') (fun b _ => by rw [e]) (fun _ h => h)) (fun b hb => by rw [e]; exact Nat.lt_of_lt_of_le (HP.out b hb) hz) (fun b hb => by rw [e]; exact Nat.lt_of_lt_of_le (HP'.out b hb) hz))
        clear hy hy' q0 q0'
        have d1 : decide ((j : Int) < n) = true := by simpa using hlt
        repeat (first | go_values | go_skip | go_guarded | go_step | go_upon)
        go_still_tail 11, (by kernel_rfl)
        repeat (first | go_values | go_skip | go_guarded | go_step | go_upon)
        refine (HC.out wr.drew rfl).mono ?_
        rintro e w1 ⟨rfl, hb1⟩
        dsimp only
        repeat (first | go_values | go_skip | go_guarded | go_step | go_upon)
        exact ⟨⟨j + 1, by go_num, by omega, HB.out.trans ((drew_below wr).trans (hb1.mono (by simp)) |>.mono (by have := HB.out.size; simpa using this))⟩, by simp [intOf]; omega⟩
      · have d1 : decide (j < n) = false := by simpa using hlt
        clear hlt
        repeat (first | go_values | go_skip | go_guarded | go_step | go_upon)
        go_ret
        exact ⟨rfl, (bal (bal (Below.refl _ w) _) _).trans (HB.out.mono (by simp; omega))⟩
  | true =>
    obtain rfl := hp rfl
    clear hp
    go_enter Tryd.func6, Tryd.ntmps6
    repeat (first | go_values | go_skip | go_guarded | go_step | go_upon)
    go_loopw [7] (fun tt wr => ∃ j : Nat, tt = .int .i64 (j : Int) ∧ j ≤ n ∧ Below ((w.alloc (.cells #[.int .i64 k, .string (mkS t), .int .u64 (wd x 0), .int .u64 (wd x 1), .int .u64 (wd x 2), .int .u64 (wd x 3), .slice (some ⟨g, o, none⟩) n cap, .int .i64 p] 36)).alloc (.cells #[.int .i64 k, .string (mkS t), .int .u64 (wd x 0), .int .u64 (wd x 1), .int .u64 (wd x 2), .int .u64 (wd x 3), .slice (some ⟨g', o', none⟩) n cap', .int .i64 p] 36)).heap.size ((w.alloc (.cells #[.int .i64 k, .string (mkS t), .int .u64 (wd x 0), .int .u64 (wd x 1), .int .u64 (wd x 2), .int .u64 (wd x 3), .slice (some ⟨g, o, none⟩) n cap, .int .i64 p] 36)).alloc (.cells #[.int .i64 k, .string (mkS t), .int .u64 (wd x 0), .int .u64 (wd x 1), .int .u64 (wd x 2), .int .u64 (wd x 3), .slice (some ⟨g', o', none⟩) n cap', .int .i64 p] 36)) wr) (fun tt _ => n - (intOf tt).toNat)
    case atStart => exact ⟨0, rfl, Nat.zero_le _, Below.refl _ _⟩
    case round =>
      obtain ⟨j, rfl, hj, hbr⟩ := hrel
      have HB := Lib.hid hbr
      have hA := (hbr.block w.heap.size (by simp; omega)).trans ((RowKit.Below.heap_alloc _ _ _ (by simp)).trans (heap_alloc_new w (.cells #[.int .i64 k, .string (mkS t), .int .u64 (wd x 0), .int .u64 (wd x 1), .int .u64 (wd x 2), .int .u64 (wd x 3), .slice (some ⟨g, o, none⟩) n cap, .int .i64 p] 36)))
      have hB := (hbr.block (w.heap.size + 1) (by simp)).trans (allocs_new w (.cells #[.int .i64 k, .string (mkS t), .int .u64 (wd x 0), .int .u64 (wd x 1), .int .u64 (wd x 2), .int .u64 (wd x 3), .slice (some ⟨g, o, none⟩) n cap, .int .i64 p] 36) (.cells #[.int .i64 k, .string (mkS t), .int .u64 (wd x 0), .int .u64 (wd x 1), .int .u64 (wd x 2), .int .u64 (wd x 3), .slice (some ⟨g', o', none⟩) n cap', .int .i64 p] 36))
      have s1 : wr.cell? ⟨w.heap.size, 6, none⟩ = some (.slice (some ⟨g, o, none⟩) n cap) := (cells_at hA).1 6
      have s2 : wr.cell? ⟨w.heap.size + 1, 6, none⟩ = some (.slice (some ⟨g', o', none⟩) n cap') := (cells_at hB).1 6
      have hw : Below w.heap.size w wr := (bal (bal (Below.refl _ w) _) _).trans (hbr.mono (by simp; omega))
      have HW := Lib.hid hw
      clear hA hB hbr hw
      by_cases hlt : j < n
      · obtain ⟨y, hy⟩ : ∃ y, l[j]? = some y := ⟨l[j]'(by rw [HN.out]; exact hlt), List.getElem?_eq_getElem (by rw [HN.out]; exact hlt)⟩
        obtain ⟨y', hy'⟩ : ∃ y', l'[j]? = some y' := ⟨l'[j]'(by rw [HN'.out]; exact hlt), List.getElem?_eq_getElem (by rw [HN'.out]; exact hlt)⟩
        obtain ⟨k1, t1, x1, sa, sn, sc, p1, l1, _, q0, _, a0, a1, a2, a3, a4, a5, a6, a7⟩ := (R1.out.mono (w' := wr) (P' := P) (fun b hb => HW.out.block b (HP.out b hb)) (fun _ h => h) HG.out).get hy
        obtain ⟨k2, t2, x2, sa2, sn2, sc2, p2, l2, _, q0', _, b0, b1, b2, b3, b4, b5, b6, b7⟩ := (R2.out.mono (w' := wr) (P' := P') (fun b hb => HW.out.block b (HP'.out b hb)) (fun _ h => h) HG'.out).get hy'
        have hz := HW.out.size
        have HC := Lib.hid (fun (w' : World) (e : w'.heap = wr.heap) => HI.out y (List.mem_of_getElem? hy) y' w' P P' _ _ (HL.out.get hy hy') (q0.mono (w' := w') (fun b _ => by rw [e]) (fun _ h => h)) (q0'.mono (w' := w') (fun b _ => by rw [e]) (fun _ h => h)) (fun b hb => by rw [e]; exact Nat.lt_of_lt_of_le (HP.out b hb) hz) (fun b hb => by rw [e]; exact Nat.lt_of_lt_of_le (HP'.out b hb) hz))
        clear hy hy' q0 q0'
        have d1 : decide ((j : Int) < n) = true := by simpa using hlt
        repeat (first | go_values | go_skip | go_guarded | go_step | go_upon)
        go_still_tail 11, (by kernel_rfl)
        repeat (first | go_values | go_skip | go_guarded | go_step | go_upon)
        refine (HC.out wr.drew rfl).mono ?_
        rintro e w1 ⟨rfl, hb1⟩
        dsimp only
        repeat (first | go_values | go_skip | go_guarded | go_step | go_upon)
        exact ⟨⟨j + 1, by go_num, by omega, HB.out.trans ((drew_below wr).trans (hb1.mono (by simp)) |>.mono (by have := HB.out.size; simpa using this))⟩, by simp [intOf]; omega⟩
      · have d1 : decide (j < n) = false := by simpa using hlt
        clear hlt
        repeat (first | go_values | go_skip | go_guarded | go_step | go_upon)
        go_ret
        exact ⟨rfl, (bal (bal (Below.refl _ w) _) _).trans (HB.out.mono (by simp; omega))⟩
/-- The contract of SameNode, where two trees are the same. -/
theorem sameT_node (at_ : Bool) : ∀ (k : Nat) (n : Tr), SizeOf.sizeOf n ≤ k → SameCT at_ n := by
  intro k
  induction k with
  | zero => intro n hn; cases n; simp at hn
  | succ k ih =>
    intro n hn m w P P' c c' hs h1 h2 hP hP'
    cases hs with
    | mk hp hl =>
      rename_i kk p p' t x l l'
      cases h1 with
      | mk r1 =>
        cases h2 with
        | mk r2 =>
          have hle := hl.length
          rcases r1.parts with ⟨rfl, rfl⟩ | ⟨rfl, a, cap, rfl⟩ | ⟨g, o, cap, rfl, hg, hpos, hcap, hmax, hr⟩
          · rcases r2.parts with ⟨rfl, rfl⟩ | ⟨rfl, a', cap', rfl⟩ | ⟨g', o', cap', rfl, hg', hpos', hcap', hmax', hr'⟩
            · exact sameT_leaf at_ w hp
            · exact sameT_leaf at_ w hp
            · rw [List.length_nil] at hle; omega
          · rcases r2.parts with ⟨rfl, rfl⟩ | ⟨rfl, a', cap', rfl⟩ | ⟨g', o', cap', rfl, hg', hpos', hcap', hmax', hr'⟩
            · exact sameT_leaf at_ w hp
            · exact sameT_leaf at_ w hp
            · rw [List.length_nil] at hle; omega
          · rcases r2.parts with ⟨rfl, rfl⟩ | ⟨rfl, a', cap', rfl⟩ | ⟨g', o', cap', rfl, hg', hpos', hcap', hmax', hr'⟩
            · rw [List.length_nil] at hle; omega
            · rw [List.length_nil] at hle; omega
            · rw [← hle] at hcap' ⊢
              exact sameT_row at_ w hp hl rfl hcap hcap' hmax hg hg' hr hr' hP hP' (fun m hm => ih m (by
                have e1 : SizeOf.sizeOf m < SizeOf.sizeOf l := List.sizeOf_lt_of_mem hm
                rw [Tr.mk.sizeOf_spec] at hn
                omega))
theorem sameT_any (at_ : Bool) (n : Tr) : SameCT at_ n := sameT_node at_ (SizeOf.sizeOf n) n (Nat.le_refl _)
end Go.Proofs.YtcogimlekmnpjaaDoor
