/- Reading rules, plain; a grammar in memory, as it is built. | Two trees compared: where they are the same, with or without their places. | A tree that was read, as any tree; two trees that are the same. | Two grammars compared: where they are the same, with or without their places. -/
import Derived.Test.YtjlcoldnhbkcgaaGreatDoorG24
import Derived.Test.YtjlcoldnhbkcgaaGreatDoorG19
namespace Go.Proofs.YtjlcoldnhbkcgaaGreatDoor
open Go.RowKit Go.Sort

theorem tokAt_kind {s : List UInt8} {a n : Nat} {t : Tok} (e : tokAt s a = .inr (t, n)) : t.kind ≠ 6 := by
  unfold tokAt at e
  split at e
  · cases e
  split at e
  · simp at e; obtain ⟨e1, _⟩ := e; subst e1; simp
  split at e
  · simp at e; obtain ⟨e1, _⟩ := e; subst e1; simp
  split at e
  · simp at e; obtain ⟨e1, _⟩ := e; subst e1; simp
  split at e
  · split at e
    · cases e
    · simp at e; obtain ⟨e1, _⟩ := e; subst e1; simp
  split at e
  · split at e
    · cases e
    · simp at e; obtain ⟨e1, _⟩ := e; subst e1; simp
  cases e
theorem ends_snoc {l : List Tok} (h : ∀ t ∈ l, t.kind ≠ 6) {e : Tok} (he : e.kind = 6) : EndsT (l ++ [e]) := by
  induction l with
  | nil => exact he
  | cons t l ih =>
    have h1 := ih (fun u hu => h u (by simp [hu]))
    have h2 := h t (by simp)
    cases hl : l ++ [e] with
    | nil => simp at hl
    | cons u m =>
      rw [hl] at h1
      rw [List.cons_append, hl]
      exact ⟨h2, h1⟩
theorem toksGo_ends {s : List UInt8} : ∀ {f a : Nat} {l m : List Tok}, toksGo s f a l = .inr m → a ≤ s.length → l.length ≤ a → (∀ t ∈ l, t.kind ≠ 6) → EndsT m ∧ m.length ≤ s.length + 1 := by
  intro f
  induction f with
  | zero => intro a l m h _ _ _; cases h
  | succ f ih =>
    intro a l m h ha hl hk
    rw [toksGo] at h
    split at h
    · have e := Sum.inr.inj h
      subst e
      exact ⟨ends_snoc hk rfl, by simp; omega⟩
    next h1 =>
    split at h
    · next h2 =>
      have := noteEnd_bd (s := s) (a := a) (by omega) (by rw [h2]; decide)
      exact ih h (by omega) (by omega) hk
    next h2 =>
    split at h
    · exact ih h (by omega) (by omega) hk
    split at h
    · cases h
    · next t n e =>
      have hb := tokAt_bd (by omega) e
      refine ih h (by omega) (by simp; omega) (fun u hu => ?_)
      rcases List.mem_append.1 hu with hu | hu
      · exact hk u hu
      · rw [List.mem_singleton.1 hu]; exact tokAt_kind e
theorem toks_ends {s : List UInt8} {l : List Tok} (h : toks s = .inr l) : EndsT l ∧ l.length ≤ s.length + 1 := toksGo_ends h (Nat.zero_le _) (Nat.le_refl _) (fun _ h => by cases h)
/-- A rule. -/
structure Ru where
  name : List UInt8
  body : Nd
  pos : Nat
def nameT : List Tok → List UInt8
  | [] => []
  | t :: _ => t.text
def pRules : Nat → List Tok → List Ru → Option (PR (List Ru))
  | 0, _, _ => none
  | f + 1, rs, l =>
    if l.length ≠ 0 ∧ kindT rs = 6 then some (.ok l rs)
    else if l.length = 64 ∧ kindT rs = 1 then some (.err 2 (posT rs))
    else if kindT rs ≠ 1 then some (.err (badE rs) (posT rs))
    else if kindT rs.tail ≠ 2 then some (.err (badE rs.tail) (posT rs.tail))
    else match pChoice f 0 rs.tail.tail with
      | none => none
      | some (.err c x) => some (.err c x)
      | some (.ok n rs2) => pRules f rs2 (l ++ [⟨nameT rs, n, posT rs⟩])
theorem pRules_mono1 : ∀ (f : Nat) (rs : List Tok) (l : List Ru) (r : PR (List Ru)), pRules f rs l = some r → pRules (f + 1) rs l = some r := by
  intro f
  induction f with
  | zero => intro rs l r h; cases h
  | succ f ih =>
    intro rs l r h
    rw [pRules] at h ⊢
    split at h
    · next h1 => rw [if_pos h1]; exact h
    next h1 =>
    rw [if_neg h1]
    split at h
    · next h2 => rw [if_pos h2]; exact h
    next h2 =>
    rw [if_neg h2]
    split at h
    · next h3 => rw [if_pos h3]; exact h
    next h3 =>
    rw [if_neg h3]
    split at h
    · next h4 => rw [if_pos h4]; exact h
    next h4 =>
    rw [if_neg h4]
    cases e : pChoice f 0 rs.tail.tail with
    | none => rw [e] at h; cases h
    | some x =>
      rw [(p_mono1 f).1 _ _ _ e]
      rw [e] at h
      cases x with
      | err c x => exact h
      | ok n rs2 => exact ih _ _ _ h
theorem pRules_mono {f f' : Nat} {rs : List Tok} {l : List Ru} {r : PR (List Ru)} (h : pRules f rs l = some r) (hf : f ≤ f') : pRules f' rs l = some r := by
  obtain ⟨k, rfl⟩ := Nat.exists_eq_add_of_le hf
  clear hf
  induction k with
  | zero => exact h
  | succ k ih => exact pRules_mono1 _ _ _ _ ih
theorem pRules_det {f f' : Nat} {rs : List Tok} {l : List Ru} {r r' : PR (List Ru)} (h : pRules f rs l = some r) (h' : pRules f' rs l = some r') : r = r' := by
  have h1 := pRules_mono h (Nat.le_max_left f f')
  have h2 := pRules_mono h' (Nat.le_max_right f f')
  rw [h1] at h2
  exact Option.some.inj h2
/-- What a source is read as: what is wrong, and where, or the rules. -/
def Reads (s : List UInt8) (r : (Nat × Int) ⊕ List Ru) : Prop := match lexed s with
  | .inl er => r = .inl er
  | .inr l => ∃ f, (∃ c x, pRules f l [] = some (.err c x) ∧ r = .inl (c, (x : Int))) ∨ (∃ g rs, pRules f l [] = some (.ok g rs) ∧ r = .inr g)
theorem Reads.det {s : List UInt8} {r r' : (Nat × Int) ⊕ List Ru} (h : Reads s r) (h' : Reads s r') : r = r' := by
  unfold Reads at h h'
  cases e : lexed s with
  | inl er =>
    rw [e] at h h'
    exact Eq.trans h (Eq.symm h')
  | inr l =>
    rw [e] at h h'
    obtain ⟨f, h⟩ := h
    obtain ⟨f', h'⟩ := h'
    rcases h with ⟨c, x, h, rfl⟩ | ⟨g, rs, h, rfl⟩ <;> rcases h' with ⟨c', x', h', rfl⟩ | ⟨g', rs', h', rfl⟩ <;> have e := pRules_det h h' <;> cases e <;> rfl
/-- From a state of the rules on, their end is the source's. -/
def RulesOn (rs rs' : List Tok) (l : List Ru) : Prop := ∀ f r, pRules f rs' l = some r → ∃ f', pRules f' rs [] = some r
theorem RulesOn.next {f : Nat} {t a : Tok} {rs rs' rs2 : List Tok} {l : List Ru} {n : Nd} (h : RulesOn rs (t :: a :: rs') l) (h6 : t.kind = 1) (h64 : l.length ≠ 64) (ha : a.kind = 2) (hp : pChoice f 0 rs' = some (.ok n rs2)) : RulesOn rs rs2 (l ++ [⟨t.text, n, t.pos⟩]) := fun f2 r h2 => h (f + f2 + 1) r (by
  rw [pRules, if_neg (by show ¬ (_ ∧ t.kind = 6); omega), if_neg (by omega), if_neg (by show ¬ (t.kind ≠ 1); omega), if_neg (by show ¬ (a.kind ≠ 2); omega)]
  rw [show (t :: a :: rs').tail.tail = rs' from rfl, pChoice_mono hp (by omega)]
  exact pRules_mono h2 (by omega))
theorem RulesOn.err {f c x : Nat} {t a : Tok} {rs rs' : List Tok} {l : List Ru} (h : RulesOn rs (t :: a :: rs') l) (h6 : t.kind = 1) (h64 : l.length ≠ 64) (ha : a.kind = 2) (hp : pChoice f 0 rs' = some (.err c x)) : ∃ f', pRules f' rs [] = some (.err c x) := h (f + 1) _ (by
  rw [pRules, if_neg (by show ¬ (_ ∧ t.kind = 6); omega), if_neg (by omega), if_neg (by show ¬ (t.kind ≠ 1); omega), if_neg (by show ¬ (a.kind ≠ 2); omega)]
  rw [show (t :: a :: rs').tail.tail = rs' from rfl, hp])
theorem RulesOn.noArrow {t a : Tok} {rs rs' : List Tok} {l : List Ru} (h : RulesOn rs (t :: a :: rs') l) (h6 : t.kind = 1) (h64 : l.length ≠ 64) (ha : a.kind ≠ 2) : ∃ f', pRules f' rs [] = some (.err (badE (a :: rs')) a.pos) := h 1 _ (by
  rw [pRules, if_neg (by show ¬ (_ ∧ t.kind = 6); omega), if_neg (by omega), if_neg (by show ¬ (t.kind ≠ 1); omega), if_pos (by exact ha)]
  rfl)
theorem RulesOn.noName {t : Tok} {rs rs' : List Tok} {l : List Ru} (h : RulesOn rs (t :: rs') l) (h6 : l.length = 0 ∨ t.kind ≠ 6) (h1 : t.kind ≠ 1) : ∃ f', pRules f' rs [] = some (.err (badE (t :: rs')) t.pos) := h 1 _ (by
  rw [pRules, if_neg (by show ¬ (_ ∧ t.kind = 6); omega), if_neg (by show ¬ (_ ∧ t.kind = 1); omega), if_pos (by exact h1)]
  rfl)
theorem RulesOn.many {t : Tok} {rs rs' : List Tok} {l : List Ru} (h : RulesOn rs (t :: rs') l) (h64 : l.length = 64) (h1 : t.kind = 1) : ∃ f', pRules f' rs [] = some (.err 2 t.pos) := h 1 _ (by
  rw [pRules, if_neg (by show ¬ (_ ∧ t.kind = 6); omega), if_pos ⟨h64, h1⟩]
  rfl)
theorem RulesOn.stop {t : Tok} {rs rs' : List Tok} {l : List Ru} (h : RulesOn rs (t :: rs') l) (h0 : l.length ≠ 0) (h6 : t.kind = 6) : ∃ f', pRules f' rs [] = some (.ok l (t :: rs')) := h 1 _ (by
  rw [pRules, if_pos ⟨h0, h6⟩])
/-- These cells are those rules. -/
inductive RuReps (w : World) (P : Nat → Prop) : List Ru → List Value → Prop
  | nil : RuReps w P [] []
  | cons {x : Ru} {l : List Ru} {c cs : List Value} : Rep w P x.body c → RuReps w P l cs → RuReps w P (x :: l) ((.string (mkS x.name) :: (c ++ [.int .i64 (x.pos : Int)])) ++ cs)
theorem RuReps.mono {w w' : World} {P P' : Nat → Prop} (hb : ∀ b, P b → w'.heap[b]? = w.heap[b]?) (hP : ∀ b, P b → P' b) {l : List Ru} {cs : List Value} (h : RuReps w P l cs) : RuReps w' P' l cs := by
  induction h with
  | nil => exact .nil
  | cons h1 _ ih => exact .cons (h1.mono hb hP) ih
theorem Rep.length {w : World} {P : Nat → Prop} {n : Nd} {c : List Value} (h : Rep w P n c) : c.length = 8 := by
  cases h; rfl
theorem RuReps.length {w : World} {P : Nat → Prop} {l : List Ru} {cs : List Value} (h : RuReps w P l cs) : cs.length = l.length * 10 := by
  induction h with
  | nil => rfl
  | cons h1 _ ih => simp [h1.length, ih]; omega
theorem RuReps.snoc {w : World} {P : Nat → Prop} {l : List Ru} {cs : List Value} {x : Ru} {c : List Value} (h : RuReps w P l cs) (hn : Rep w P x.body c) : RuReps w P (l ++ [x]) (cs ++ (.string (mkS x.name) :: (c ++ [.int .i64 (x.pos : Int)]))) := by
  induction h with
  | nil => simpa using RuReps.cons hn .nil
  | cons h1 _ ih =>
    rw [List.cons_append, List.append_assoc]
    exact .cons h1 ih
/-- A grammar's rules, in a row of their own from a number on. -/
structure GV (B : Nat) (gs : List Ru) (v : Value) (cs : List Value) (w : World) : Prop where
  own : w.ownsRow B 42 10 v gs.length cs
  reps : RuReps w (fun b => B ≤ b ∧ b < w.heap.size ∧ v.ownBlock ≠ some b) gs cs
theorem GV.gby {B R : Nat} {gs : List Ru} {v : Value} {cs : List Value} {w w' : World} (h : GV B gs v cs w) (hg : w.grownBy w' (some R)) (hR : R < B) : GV B gs v cs w' := by
  refine ⟨h.own.kept hg ?_, RuReps.mono (fun b hb => hg.block b hb.2.1 (fun e => by have := Option.some.inj e; have := hb.1; omega)) (fun b hb => ⟨hb.1, Nat.lt_of_lt_of_le hb.2.1 hg.size, hb.2.2⟩) h.reps⟩
  cases hb : v.ownBlock with
  | none => left; rfl
  | some k => right; have := (h.own.lt k hb).1; simp; omega
theorem GV.below {B : Nat} {gs : List Ru} {v : Value} {cs : List Value} {w w' : World} (h : GV B gs v cs w) (hb : Below w.heap.size w w') : GV B gs v cs w' :=
  ⟨owns_below h.own hb, RuReps.mono (fun b h => hb.block b h.2.1) (fun _ h => ⟨h.1, Nat.lt_of_lt_of_le h.2.1 hb.size, h.2.2⟩) h.reps⟩
theorem GV.push {B gg cap lo : Nat} {gs : List Ru} {x : Ru} {v : Value} {cs c : List Value} {o : Obj} {w w4 : World} (h : GV B gs v cs w) (hg : (w.alloc o).grownBy w4 v.ownBlock) (hat : v.ownBlock = some gg ∨ gg = w.heap.size + 1)
    (hlo : ∀ k, v.ownBlock = some k → k < lo) (hBl : B ≤ lo) (hn : Rep w (Blk lo w.heap.size) x.body c)
    (hown : w4.ownsRow B 42 10 (.slice (some ⟨gg, 0, none⟩) (gs.length + 1) cap) (gs.length + 1) (cs ++ (.string (mkS x.name) :: (c ++ [.int .i64 (x.pos : Int)])))) : GV B (gs ++ [x]) (.slice (some ⟨gg, 0, none⟩) (gs.length + 1) cap) (cs ++ (.string (mkS x.name) :: (c ++ [.int .i64 (x.pos : Int)]))) w4 := by
  have hz := hg.size
  simp at hz
  have key : ∀ b, B ≤ b → b < w.heap.size → v.ownBlock ≠ some b → b ≠ gg ∧ w4.heap[b]? = w.heap[b]? := by
    intro b h1 h2 h3
    have hne : b ≠ gg := by
      rintro rfl
      rcases hat with e | e
      · exact h3 e
      · omega
    refine ⟨hne, ?_⟩
    rw [hg.block b (by simp; omega) (fun e => h3 e.symm)]
    exact RowKit.Below.heap_alloc _ _ _ h2
  refine ⟨by rw [List.length_append]; exact hown, RuReps.snoc ?_ ?_⟩
  · exact RuReps.mono (fun b hb => (key b hb.1 hb.2.1 hb.2.2).2) (fun b hb => ⟨hb.1, by have := hb.2.1; omega, fun e => (key b hb.1 hb.2.1 hb.2.2).1 (Option.some.inj e).symm⟩) h.reps
  · have k2 : ∀ b, Blk lo w.heap.size b → v.ownBlock ≠ some b := fun b hb e => by have := hlo b e; have := hb.lo; omega
    exact Rep.mono (fun b hb => (key b (by have := hb.lo; omega) hb.hi (k2 b hb)).2) (fun b hb => ⟨by have := hb.lo; omega, by have := hb.hi; omega, fun e => (key b (by have := hb.lo; omega) hb.hi (k2 b hb)).1 (Option.some.inj e).symm⟩) hn
/-- A grammar's rules as they lie in memory. -/
def GRep (w : World) (P : Nat → Prop) (gs : List Ru) (v : Value) : Prop := (gs = [] ∧ v = .slice none 0 0) ∨ ∃ b cap cur cs, v = .slice (some ⟨b, 0, none⟩) gs.length cap ∧ P b ∧ w.heap[b]? = some (.cells cur 42 (0, 0)) ∧ gs.length ≤ cap ∧ gs.length ≤ maxLen ∧ 0 < gs.length ∧ cur.toList.take (gs.length * 10) = cs ∧ RuReps w P gs cs
theorem GRep.mono {w w' : World} {P P' : Nat → Prop} (hb : ∀ b, P b → w'.heap[b]? = w.heap[b]?) (hP : ∀ b, P b → P' b) {gs : List Ru} {v : Value} (h : GRep w P gs v) : GRep w' P' gs v := by
  rcases h with h | ⟨b, cap, cur, cs, h1, h2, h3, h4, hm, h5, h6, h7⟩
  · exact .inl h
  · exact .inr ⟨b, cap, cur, cs, h1, hP b h2, (hb b h2).trans h3, h4, hm, h5, h6, h7.mono hb hP⟩
theorem GV.rep {B : Nat} {gs : List Ru} {v : Value} {cs : List Value} {w : World} (h : GV B gs v cs w) (h0 : 0 < gs.length) : GRep w (Blk B w.heap.size) gs v := by
  rcases h.own.2 with ⟨h1, h2⟩ | ⟨g, cap, cur, h1, h2, h3, h4, h5, h6, h7⟩
  · omega
  · exact .inr ⟨g, cap, cur, cs, h1, ⟨h2, (Array.getElem?_eq_some_iff.1 h3).1⟩, h3, h4, Nat.le_trans h4 h5, h0, h7, h.reps.mono (fun _ _ => rfl) (fun b hb => ⟨hb.1, hb.2.1⟩)⟩
end Go.Proofs.YtjlcoldnhbkcgaaGreatDoor
namespace Go.Proofs.YtjlcoldnhbkcgaaGreatDoor
open Go.RowKit Go.Sort

mutual
/-- The same tree; with its places, if asked for. -/
inductive SameN (at_ : Bool) : Nd → Nd → Prop
  | mk {k p p' : Nat} {t : List UInt8} {c : BitVec 256} {l l' : List Nd} : (at_ = true → p = p') → SameL at_ l l' → SameN at_ (.mk k t c l p) (.mk k t c l' p')
inductive SameL (at_ : Bool) : List Nd → List Nd → Prop
  | nil : SameL at_ [] []
  | cons {n n' : Nd} {l l' : List Nd} : SameN at_ n n' → SameL at_ l l' → SameL at_ (n :: l) (n' :: l')
end
mutual
theorem SameN.refl (b : Bool) : ∀ n : Nd, SameN b n n
  | .mk _ _ _ l _ => .mk (fun _ => rfl) (SameL.refl b l)
theorem SameL.refl (b : Bool) : ∀ l : List Nd, SameL b l l
  | [] => .nil
  | n :: l => .cons (SameN.refl b n) (SameL.refl b l)
end
theorem SameL.length {b : Bool} {l l' : List Nd} (h : SameL b l l') : l.length = l'.length := by
  induction l generalizing l' with
  | nil => cases h; rfl
  | cons n l ih => cases h with
    | cons h1 h2 => simp [ih h2]
theorem SameL.get {b : Bool} {l l' : List Nd} (h : SameL b l l') {k : Nat} {n n' : Nd} (h1 : l[k]? = some n) (h2 : l'[k]? = some n') : SameN b n n' := by
  induction l generalizing l' k with
  | nil => cases h; simp at h1
  | cons m l ih => cases h with
    | cons g1 g2 =>
      cases k with
      | zero => simp at h1 h2; rw [← h1, ← h2]; exact g1
      | succ k => exact ih g2 (by simpa using h1) (by simpa using h2)
theorem SameL.snoc {b : Bool} {l l' : List Nd} (h : SameL b l l') {n n' : Nd} (hn : SameN b n n') : SameL b (l ++ [n]) (l' ++ [n']) := by
  induction l generalizing l' with
  | nil => cases h; exact .cons hn .nil
  | cons m l ih => cases h with
    | cons g1 g2 => exact .cons g1 (ih g2)
/-- The cells of a tree in a row. -/
theorem Reps.get {w : World} {P : Nat → Prop} {l : List Nd} {cs : List Value} (h : Reps w P l cs) {k : Nat} {n : Nd} (hk : l[k]? = some n) : ∃ c, Rep w P n c ∧ ∀ j, j < 8 → cs[k * 8 + j]? = c[j]? := by
  induction l generalizing cs k with
  | nil => simp at hk
  | cons m l ih =>
    cases h with
    | cons h1 h2 =>
      cases k with
      | zero =>
        simp at hk
        subst hk
        refine ⟨_, h1, fun j hj => ?_⟩
        rw [List.getElem?_append_left (by cases h1; simp [ndC]; omega)]
        simp
      | succ k =>
        obtain ⟨c, g1, g2⟩ := ih h2 (by simpa using hk)
        refine ⟨c, g1, fun j hj => ?_⟩
        rw [List.getElem?_append_right (by cases h1; simp [ndC]; omega), ← g2 j hj]
        congr 1
        cases h1
        simp [ndC]
        omega
/-- A tree's part, as its cells lie in the row. -/
theorem reps_cells {w : World} {P : Nat → Prop} {l : List Nd} {g : Nat} {cur : Array Value} {n : Nat} (hn : l.length = n) (hcur : w.heap[g]? = some (.cells cur 40 (0, 0))) (h : Reps w P l (cur.toList.take (n * 8))) {k : Nat} {x : Nd} (hk : l[k]? = some x) :
    ∃ a t c sa sn sc, Rep w P x (ndC a t c (.slice sa sn sc) x.pos) ∧ w.cell? ⟨g, k * 8, none⟩ = some (.int .i64 (a : Int)) ∧ w.cell? ⟨g, k * 8 + 1, none⟩ = some (.string (mkS t)) ∧ w.cell? ⟨g, k * 8 + 2, none⟩ = some (.int .u64 (wd c 0)) ∧ w.cell? ⟨g, k * 8 + 3, none⟩ = some (.int .u64 (wd c 1)) ∧ w.cell? ⟨g, k * 8 + 4, none⟩ = some (.int .u64 (wd c 2)) ∧ w.cell? ⟨g, k * 8 + 5, none⟩ = some (.int .u64 (wd c 3)) ∧ w.cell? ⟨g, k * 8 + 6, none⟩ = some (.slice sa sn sc) ∧ w.cell? ⟨g, k * 8 + 7, none⟩ = some (.int .i64 (x.pos : Int)) := by
  obtain ⟨c, h1, h2⟩ := h.get hk
  obtain ⟨a, t, y, v, l', e1, e2, h3⟩ := h1.form
  obtain ⟨sa, sn, sc, rfl⟩ := h3.slice
  subst e2
  have hlt : k < n := by rw [← hn]; exact (List.getElem?_eq_some_iff.1 hk).1
  have key : ∀ j, j < 8 → w.cell? ⟨g, k * 8 + j, none⟩ = (ndC a t y (.slice sa sn sc) x.pos)[j]? := fun j hj => by
    rw [(cells_at hcur).1, ← h2 j hj, List.getElem?_take, if_pos (by omega), Array.getElem?_toList]
  exact ⟨a, t, y, sa, sn, sc, h1, key 0 (by decide), key 1 (by decide), key 2 (by decide), key 3 (by decide), key 4 (by decide), key 5 (by decide), key 6 (by decide), key 7 (by decide)⟩
theorem RepS.parts {w : World} {P : Nat → Prop} {l : List Nd} {v : Value} (h : RepS w P l v) : (l = [] ∧ v = .slice none 0 0) ∨ ∃ g cap cur, v = .slice (some ⟨g, 0, none⟩) l.length cap ∧ P g ∧ w.heap[g]? = some (.cells cur 40 (0, 0)) ∧ 0 < l.length ∧ l.length ≤ cap ∧ l.length ≤ maxLen ∧ Reps w P l (cur.toList.take (l.length * 8)) := by
  cases h with
  | nil => exact .inl ⟨rfl, rfl⟩
  | row h1 h2 h3 h4 hm h5 h6 => subst h5; exact .inr ⟨_, _, _, rfl, h1, h2, h3, h4, hm, h6⟩
/-- Below a number of blocks. -/
theorem Rep.on {w w' : World} {P : Nat → Prop} {n : Nd} {c : List Value} (h : Rep w P n c) (hP : ∀ b, P b → b < w.heap.size) (hb : Below w.heap.size w w') : Rep w' P n c := h.mono (fun b hb' => hb.block b (hP b hb')) (fun _ h => h)
/-- The contract of SameNode at a tree. -/
def SameC (at_ : Bool) (n : Nd) : Prop := ∀ (m : Nd) (w : World) (P P' : Nat → Prop) (c c' : List Value), SameN at_ n m → Rep w P n c → Rep w P' m c' → (∀ b, P b → b < w.heap.size) → (∀ b, P' b → b < w.heap.size) →
  Calls Tryz.prog 40 #[.agg c.toArray, .agg c'.toArray, .bool at_] w (Ans (.bool true) w)
set_option maxRecDepth 100000 in
set_option maxHeartbeats 3200000 in
theorem same_leaf (at_ : Bool) {k p p' : Nat} {t : List UInt8} {x : BitVec 256} (w : World) (hp : at_ = true → p = p') :
    Calls Tryz.prog 40 #[.agg (ndC k t x (.slice none 0 0) p).toArray, .agg (ndC k t x (.slice none 0 0) p').toArray, .bool at_] w (Ans (.bool true) w) := by
  have f8 := guard_cl
  have f9 := equal_cl
  have hm1 := cell_alloc_lt
  dsimp only [ndC]
  cases at_ with
  | false =>
    clear hp
    go_enter Tryz.func40, Tryz.ntmps40
    repeat (first | go_values | go_skip | go_guarded | go_step | go_upon)
    refine wp_loop_rounds 1 ?_
    rw [rounds_succ]
    repeat (first | go_values | go_skip | go_guarded | go_step | go_upon)
    go_ret
    exact ⟨rfl, (by repeat (first | exact Below.refl _ _ | assumption | refine bal ?_ _ | refine bdr ?_ | refine bdrn ?_ _ | (refine bset ?_ (by first | exact Nat.le_refl _ | (simp; done) | (simp; omega) | omega) _) | refine bstep ?_ (by assumption)))⟩
  | true =>
    obtain rfl := hp rfl
    go_enter Tryz.func40, Tryz.ntmps40
    repeat (first | go_values | go_skip | go_guarded | go_step | go_upon)
    refine wp_loop_rounds 1 ?_
    rw [rounds_succ]
    repeat (first | go_values | go_skip | go_guarded | go_step | go_upon)
    go_ret
    exact ⟨rfl, (by repeat (first | exact Below.refl _ _ | assumption | refine bal ?_ _ | refine bdr ?_ | refine bdrn ?_ _ | (refine bset ?_ (by first | exact Nat.le_refl _ | (simp; done) | (simp; omega) | omega) _) | refine bstep ?_ (by assumption)))⟩
set_option maxRecDepth 100000 in
set_option maxHeartbeats 6400000 in
theorem same_row (at_ : Bool) {k p p' n g g' cap cap' : Nat} {t : List UInt8} {x : BitVec 256} {l l' : List Nd} {cur cur' : Array Value} {P P' : Nat → Prop} (w : World) (hp : at_ = true → p = p') (hl : SameL at_ l l') (hn : l.length = n) (_ : n ≤ cap) (_ : n ≤ cap') (hmax : n ≤ maxLen) (h1 : w.heap[g]? = some (.cells cur 40 (0, 0))) (h2 : w.heap[g']? = some (.cells cur' 40 (0, 0))) (r1 : Reps w P l (cur.toList.take (n * 8))) (r2 : Reps w P' l' (cur'.toList.take (n * 8))) (hP : ∀ b, P b → b < w.heap.size) (hP' : ∀ b, P' b → b < w.heap.size) (IH : ∀ m ∈ l, SameC at_ m) :
    Calls Tryz.prog 40 #[.agg (ndC k t x (.slice (some ⟨g, 0, none⟩) n cap) p).toArray, .agg (ndC k t x (.slice (some ⟨g', 0, none⟩) n cap') p').toArray, .bool at_] w (Ans (.bool true) w) := by
  have f8 := guard_cl
  have f9 := equal_cl
  have hm1 := cell_alloc_lt
  have HL := Lib.hid hl
  have HN := Lib.hid hn
  have hn' : l'.length = n := by rw [← hl.length]; exact hn
  have HN' := Lib.hid hn'
  have R1 := Lib.hid r1
  have R2 := Lib.hid r2
  have H1 := Lib.hid h1
  have H2 := Lib.hid h2
  have HP := Lib.hid hP
  have HP' := Lib.hid hP'
  have HI := Lib.hid IH
  unfold maxLen at hmax
  clear hl hn hn' r1 r2 h1 h2 hP hP' IH
  dsimp only [ndC]
  cases at_ with
  | false =>
    clear hp
    go_enter Tryz.func40, Tryz.ntmps40
    repeat (first | go_values | go_skip | go_guarded | go_step | go_upon)
    go_loopw [7] (fun tt wr => ∃ j : Nat, tt = .int .i64 (j : Int) ∧ j ≤ n ∧ Below ((w.alloc (.cells #[.int .i64 (k : Int), .string (mkS t), .int .u64 (wd x 0), .int .u64 (wd x 1), .int .u64 (wd x 2), .int .u64 (wd x 3), .slice (some ⟨g, 0, none⟩) n cap, .int .i64 (p : Int)] 40)).alloc (.cells #[.int .i64 (k : Int), .string (mkS t), .int .u64 (wd x 0), .int .u64 (wd x 1), .int .u64 (wd x 2), .int .u64 (wd x 3), .slice (some ⟨g', 0, none⟩) n cap', .int .i64 (p' : Int)] 40)).heap.size ((w.alloc (.cells #[.int .i64 (k : Int), .string (mkS t), .int .u64 (wd x 0), .int .u64 (wd x 1), .int .u64 (wd x 2), .int .u64 (wd x 3), .slice (some ⟨g, 0, none⟩) n cap, .int .i64 (p : Int)] 40)).alloc (.cells #[.int .i64 (k : Int), .string (mkS t), .int .u64 (wd x 0), .int .u64 (wd x 1), .int .u64 (wd x 2), .int .u64 (wd x 3), .slice (some ⟨g', 0, none⟩) n cap', .int .i64 (p' : Int)] 40)) wr) (fun tt _ => n - (intOf tt).toNat)
    case atStart => exact ⟨0, rfl, Nat.zero_le _, Below.refl _ _⟩
    case round =>
      obtain ⟨j, rfl, hj, hbr⟩ := hrel
      have HB := Lib.hid hbr
      have hA := (hbr.block w.heap.size (by simp; omega)).trans ((RowKit.Below.heap_alloc _ _ _ (by simp)).trans (heap_alloc_new w (.cells #[.int .i64 (k : Int), .string (mkS t), .int .u64 (wd x 0), .int .u64 (wd x 1), .int .u64 (wd x 2), .int .u64 (wd x 3), .slice (some ⟨g, 0, none⟩) n cap, .int .i64 (p : Int)] 40)))
      have hB := (hbr.block (w.heap.size + 1) (by simp)).trans (alloc2_new w (.cells #[.int .i64 (k : Int), .string (mkS t), .int .u64 (wd x 0), .int .u64 (wd x 1), .int .u64 (wd x 2), .int .u64 (wd x 3), .slice (some ⟨g, 0, none⟩) n cap, .int .i64 (p : Int)] 40) (.cells #[.int .i64 (k : Int), .string (mkS t), .int .u64 (wd x 0), .int .u64 (wd x 1), .int .u64 (wd x 2), .int .u64 (wd x 3), .slice (some ⟨g', 0, none⟩) n cap', .int .i64 (p' : Int)] 40))
      have s1 : wr.cell? ⟨w.heap.size, 6, none⟩ = some (.slice (some ⟨g, 0, none⟩) n cap) := (cells_at hA).1 6
      have s2 : wr.cell? ⟨w.heap.size + 1, 6, none⟩ = some (.slice (some ⟨g', 0, none⟩) n cap') := (cells_at hB).1 6
      have hw : Below w.heap.size w wr := (bal (bal (Below.refl _ w) _) _).trans (hbr.mono (by simp; omega))
      have HW := Lib.hid hw
      clear hA hB hbr hw
      by_cases hlt : j < n
      · obtain ⟨y, hy⟩ : ∃ y, l[j]? = some y := ⟨l[j]'(by rw [HN.out]; exact hlt), List.getElem?_eq_getElem (by rw [HN.out]; exact hlt)⟩
        obtain ⟨y', hy'⟩ : ∃ y', l'[j]? = some y' := ⟨l'[j]'(by rw [HN'.out]; exact hlt), List.getElem?_eq_getElem (by rw [HN'.out]; exact hlt)⟩
        obtain ⟨k1, t1, x1, sa, sn, sc, q0, a0, a1, a2, a3, a4, a5, a6, a7⟩ := reps_cells HN.out ((HW.out.block g (Array.getElem?_eq_some_iff.1 H1.out).1).trans H1.out) (R1.out.mono (fun b hb => HW.out.block b (HP.out b hb)) (fun _ h => h)) hy
        obtain ⟨k2, t2, x2, sa2, sn2, sc2, q0', b0, b1, b2, b3, b4, b5, b6, b7⟩ := reps_cells HN'.out ((HW.out.block g' (Array.getElem?_eq_some_iff.1 H2.out).1).trans H2.out) (R2.out.mono (fun b hb => HW.out.block b (HP'.out b hb)) (fun _ h => h)) hy'
        have hz := HW.out.size
        have HC := Lib.hid (fun (w' : World) (e : w'.heap = wr.heap) => HI.out y (List.mem_of_getElem? hy) y' w' P P' _ _ (HL.out.get hy hy') (q0.mono (w' := w') (fun b _ => by rw [e]) (fun _ h => h)) (q0'.mono (w' := w') (fun b _ => by rw [e]) (fun _ h => h)) (fun b hb => by rw [e]; exact Nat.lt_of_lt_of_le (HP.out b hb) hz) (fun b hb => by rw [e]; exact Nat.lt_of_lt_of_le (HP'.out b hb) hz))
        clear hy hy' q0 q0'
        have d1 : decide ((j : Int) < n) = true := by simpa using hlt
        repeat (first | go_values | go_skip | go_guarded | go_step | go_upon)
        go_still_tail 11, (by kernel_rfl)
        repeat (first | go_values | go_skip | go_guarded | go_step | go_upon)
        refine (HC.out wr.drew rfl).mono ?_
        rintro e w1 ⟨rfl, hb1⟩
        dsimp only
        repeat (first | go_values | go_skip | go_guarded | go_step | go_upon)
        exact ⟨⟨j + 1, by go_num, by omega, HB.out.trans ((drew_below wr).trans (hb1.mono (by simp)) |>.mono (by have := HB.out.size; simpa using this))⟩, by simp [intOf]; omega⟩
      · have d1 : decide (j < n) = false := by simpa using hlt
        clear hlt
        repeat (first | go_values | go_skip | go_guarded | go_step | go_upon)
        go_ret
        exact ⟨rfl, (bal (bal (Below.refl _ w) _) _).trans (HB.out.mono (by simp; omega))⟩
  | true =>
    obtain rfl := hp rfl
    clear hp
    go_enter Tryz.func40, Tryz.ntmps40
    repeat (first | go_values | go_skip | go_guarded | go_step | go_upon)
    go_loopw [7] (fun tt wr => ∃ j : Nat, tt = .int .i64 (j : Int) ∧ j ≤ n ∧ Below ((w.alloc (.cells #[.int .i64 (k : Int), .string (mkS t), .int .u64 (wd x 0), .int .u64 (wd x 1), .int .u64 (wd x 2), .int .u64 (wd x 3), .slice (some ⟨g, 0, none⟩) n cap, .int .i64 (p : Int)] 40)).alloc (.cells #[.int .i64 (k : Int), .string (mkS t), .int .u64 (wd x 0), .int .u64 (wd x 1), .int .u64 (wd x 2), .int .u64 (wd x 3), .slice (some ⟨g', 0, none⟩) n cap', .int .i64 (p : Int)] 40)).heap.size ((w.alloc (.cells #[.int .i64 (k : Int), .string (mkS t), .int .u64 (wd x 0), .int .u64 (wd x 1), .int .u64 (wd x 2), .int .u64 (wd x 3), .slice (some ⟨g, 0, none⟩) n cap, .int .i64 (p : Int)] 40)).alloc (.cells #[.int .i64 (k : Int), .string (mkS t), .int .u64 (wd x 0), .int .u64 (wd x 1), .int .u64 (wd x 2), .int .u64 (wd x 3), .slice (some ⟨g', 0, none⟩) n cap', .int .i64 (p : Int)] 40)) wr) (fun tt _ => n - (intOf tt).toNat)
    case atStart => exact ⟨0, rfl, Nat.zero_le _, Below.refl _ _⟩
    case round =>
      obtain ⟨j, rfl, hj, hbr⟩ := hrel
      have HB := Lib.hid hbr
      have hA := (hbr.block w.heap.size (by simp; omega)).trans ((RowKit.Below.heap_alloc _ _ _ (by simp)).trans (heap_alloc_new w (.cells #[.int .i64 (k : Int), .string (mkS t), .int .u64 (wd x 0), .int .u64 (wd x 1), .int .u64 (wd x 2), .int .u64 (wd x 3), .slice (some ⟨g, 0, none⟩) n cap, .int .i64 (p : Int)] 40)))
      have hB := (hbr.block (w.heap.size + 1) (by simp)).trans (alloc2_new w (.cells #[.int .i64 (k : Int), .string (mkS t), .int .u64 (wd x 0), .int .u64 (wd x 1), .int .u64 (wd x 2), .int .u64 (wd x 3), .slice (some ⟨g, 0, none⟩) n cap, .int .i64 (p : Int)] 40) (.cells #[.int .i64 (k : Int), .string (mkS t), .int .u64 (wd x 0), .int .u64 (wd x 1), .int .u64 (wd x 2), .int .u64 (wd x 3), .slice (some ⟨g', 0, none⟩) n cap', .int .i64 (p : Int)] 40))
      have s1 : wr.cell? ⟨w.heap.size, 6, none⟩ = some (.slice (some ⟨g, 0, none⟩) n cap) := (cells_at hA).1 6
      have s2 : wr.cell? ⟨w.heap.size + 1, 6, none⟩ = some (.slice (some ⟨g', 0, none⟩) n cap') := (cells_at hB).1 6
      have hw : Below w.heap.size w wr := (bal (bal (Below.refl _ w) _) _).trans (hbr.mono (by simp; omega))
      have HW := Lib.hid hw
      clear hA hB hbr hw
      by_cases hlt : j < n
      · obtain ⟨y, hy⟩ : ∃ y, l[j]? = some y := ⟨l[j]'(by rw [HN.out]; exact hlt), List.getElem?_eq_getElem (by rw [HN.out]; exact hlt)⟩
        obtain ⟨y', hy'⟩ : ∃ y', l'[j]? = some y' := ⟨l'[j]'(by rw [HN'.out]; exact hlt), List.getElem?_eq_getElem (by rw [HN'.out]; exact hlt)⟩
        obtain ⟨k1, t1, x1, sa, sn, sc, q0, a0, a1, a2, a3, a4, a5, a6, a7⟩ := reps_cells HN.out ((HW.out.block g (Array.getElem?_eq_some_iff.1 H1.out).1).trans H1.out) (R1.out.mono (fun b hb => HW.out.block b (HP.out b hb)) (fun _ h => h)) hy
        obtain ⟨k2, t2, x2, sa2, sn2, sc2, q0', b0, b1, b2, b3, b4, b5, b6, b7⟩ := reps_cells HN'.out ((HW.out.block g' (Array.getElem?_eq_some_iff.1 H2.out).1).trans H2.out) (R2.out.mono (fun b hb => HW.out.block b (HP'.out b hb)) (fun _ h => h)) hy'
        have hz := HW.out.size
        have HC := Lib.hid (fun (w' : World) (e : w'.heap = wr.heap) => HI.out y (List.mem_of_getElem? hy) y' w' P P' _ _ (HL.out.get hy hy') (q0.mono (w' := w') (fun b _ => by rw [e]) (fun _ h => h)) (q0'.mono (w' := w') (fun b _ => by rw [e]) (fun _ h => h)) (fun b hb => by rw [e]; exact Nat.lt_of_lt_of_le (HP.out b hb) hz) (fun b hb => by rw [e]; exact Nat.lt_of_lt_of_le (HP'.out b hb) hz))
        clear hy hy' q0 q0'
        have d1 : decide ((j : Int) < n) = true := by simpa using hlt
        repeat (first | go_values | go_skip | go_guarded | go_step | go_upon)
        go_still_tail 11, (by kernel_rfl)
        repeat (first | go_values | go_skip | go_guarded | go_step | go_upon)
        refine (HC.out wr.drew rfl).mono ?_
        rintro e w1 ⟨rfl, hb1⟩
        dsimp only
        repeat (first | go_values | go_skip | go_guarded | go_step | go_upon)
        exact ⟨⟨j + 1, by go_num, by omega, HB.out.trans ((drew_below wr).trans (hb1.mono (by simp)) |>.mono (by have := HB.out.size; simpa using this))⟩, by simp [intOf]; omega⟩
      · have d1 : decide (j < n) = false := by simpa using hlt
        clear hlt
        repeat (first | go_values | go_skip | go_guarded | go_step | go_upon)
        go_ret
        exact ⟨rfl, (bal (bal (Below.refl _ w) _) _).trans (HB.out.mono (by simp; omega))⟩
/-- The contract of SameNode, where two trees are the same. -/
theorem same_node (at_ : Bool) : ∀ (k : Nat) (n : Nd), SizeOf.sizeOf n ≤ k → SameC at_ n := by
  intro k
  induction k with
  | zero => intro n hn; cases n; simp at hn
  | succ k ih =>
    intro n hn m w P P' c c' hs h1 h2 hP hP'
    cases hs with
    | mk hp hl =>
      rename_i kk p p' t x l l'
      cases h1 with
      | mk r1 =>
        cases h2 with
        | mk r2 =>
          rcases r1.parts with ⟨rfl, rfl⟩ | ⟨g, cap, cur, rfl, hg, hh, hpos, hcap, hmax, hr⟩
          · rcases r2.parts with ⟨rfl, rfl⟩ | ⟨g', cap', cur', rfl, hg', hh', hpos', hcap', hmax', hr'⟩
            · exact same_leaf at_ w hp
            · have := hl.length; rw [List.length_nil] at this; omega
          · rcases r2.parts with ⟨rfl, rfl⟩ | ⟨g', cap', cur', rfl, hg', hh', hpos', hcap', hmax', hr'⟩
            · have := hl.length; rw [List.length_nil] at this; omega
            · have hle := hl.length
              rw [← hle] at hcap' hr' ⊢
              exact same_row at_ w hp hl rfl hcap hcap' hmax hh hh' hr hr' hP hP' (fun m hm => ih m (by
                have e1 : SizeOf.sizeOf m < SizeOf.sizeOf l := List.sizeOf_lt_of_mem hm
                rw [Nd.mk.sizeOf_spec] at hn
                omega))
theorem same_any (at_ : Bool) (n : Nd) : SameC at_ n := same_node at_ (SizeOf.sizeOf n) n (Nat.le_refl _)
end Go.Proofs.YtjlcoldnhbkcgaaGreatDoor
namespace Go.Proofs.YtjlcoldnhbkcgaaGreatDoor
open Go.RowKit Go.Sort

mutual
/-- A tree that was read, as any tree. -/
def Nd.tr : Nd → Tr
  | .mk k t c l p => .mk (k : Int) t c (Nd.trs l) (p : Int)
def Nd.trs : List Nd → List Tr
  | [] => []
  | n :: l => n.tr :: Nd.trs l
end
theorem Nd.trs_length (l : List Nd) : (Nd.trs l).length = l.length := by
  induction l with
  | nil => rfl
  | cons n l ih => simp [Nd.trs, ih]
mutual
theorem Rep.anyT {w : World} {P : Nat → Prop} {n : Nd} {c : List Value} : Rep w P n c → RepA w P n.tr c
  | .mk h => by rw [Nd.tr]; exact .mk (RepS.anyT h)
theorem RepS.anyT {w : World} {P : Nat → Prop} {l : List Nd} {v : Value} : RepS w P l v → RepL w P (Nd.trs l) v
  | .nil => by rw [Nd.trs]; exact .null
  | @RepS.row _ _ l g cap cur cs h1 h2 h3 h4 hm h5 h6 => by
    have h := RepL.row (w := w) (P := P) (l := Nd.trs l) (g := g) (o := 0) (cap := cap) h1 (by rw [Nd.trs_length]; exact h3) (by rw [Nd.trs_length]; exact h4) (by rw [Nd.trs_length]; exact hm) (Reps.anyT g 0 h6 (fun j hj => by
      rw [(cells_at h2).1, ← h5, List.getElem?_take, if_pos (by rw [← h6.length]; exact hj), Array.getElem?_toList, Nat.zero_add]))
    rw [Nd.trs_length] at h
    exact h
theorem Reps.anyT {w : World} {P : Nat → Prop} {l : List Nd} {cs : List Value} (g o : Nat) : Reps w P l cs → (∀ j, j < cs.length → w.cell? ⟨g, o + j, none⟩ = cs[j]?) → RepC w P g o (Nd.trs l)
  | .nil, _ => by rw [Nd.trs]; exact .nil
  | @Reps.cons _ _ n l c cs h1 h2, hc => by
    rw [Nd.trs]
    have h8 : c.length = 8 := by cases h1; rfl
    refine .cons (cs := c) (fun j hj => ?_) (Rep.anyT h1) (Reps.anyT g (o + 8) h2 (fun j hj => ?_))
    · rw [hc j (by rw [List.length_append]; omega), List.getElem?_append_left (by omega)]
    · have := hc (8 + j) (by rw [List.length_append]; omega)
      rw [List.getElem?_append_right (by omega), h8, Nat.add_sub_cancel_left] at this
      rw [← this]
      congr 2
      omega
end
end Go.Proofs.YtjlcoldnhbkcgaaGreatDoor
namespace Go.Proofs.YtjlcoldnhbkcgaaGreatDoor
open Go.RowKit Go.Sort

/-- The same rules; with their places, if asked for. -/
inductive SameG (at_ : Bool) : List Ru → List Ru → Prop
  | nil : SameG at_ [] []
  | cons {n : List UInt8} {b b' : Nd} {p p' : Nat} {l l' : List Ru} : SameN at_ b b' → (at_ = true → p = p') → SameG at_ l l' → SameG at_ (⟨n, b, p⟩ :: l) (⟨n, b', p'⟩ :: l')
theorem SameG.refl (b : Bool) (l : List Ru) : SameG b l l := by
  induction l with
  | nil => exact .nil
  | cons x l ih => exact .cons (SameN.refl b _) (fun _ => rfl) ih
theorem SameG.length {b : Bool} {l l' : List Ru} (h : SameG b l l') : l.length = l'.length := by
  induction h with
  | nil => rfl
  | cons _ _ _ ih => simp [ih]
theorem SameG.get {b : Bool} {l l' : List Ru} (h : SameG b l l') {k : Nat} {x x' : Ru} (h1 : l[k]? = some x) (h2 : l'[k]? = some x') : x.name = x'.name ∧ SameN b x.body x'.body ∧ (b = true → x.pos = x'.pos) := by
  induction h generalizing k with
  | nil => simp at h1
  | cons g1 g2 g3 ih =>
    cases k with
    | zero => simp at h1 h2; rw [← h1, ← h2]; exact ⟨rfl, g1, g2⟩
    | succ k => exact ih (by simpa using h1) (by simpa using h2)
theorem SameG.append {b : Bool} {l l' m m' : List Ru} (h : SameG b l l') (h2 : SameG b m m') : SameG b (l ++ m) (l' ++ m') := by
  induction h with
  | nil => exact h2
  | cons g1 g2 g3 ih => exact .cons g1 g2 ih
/-- The cells of a rule in a row. -/
theorem RuReps.get {w : World} {P : Nat → Prop} {l : List Ru} {cs : List Value} (h : RuReps w P l cs) {k : Nat} {x : Ru} (hk : l[k]? = some x) : ∃ c, Rep w P x.body c ∧ ∀ j, j < 10 → cs[k * 10 + j]? = (Value.string (mkS x.name) :: (c ++ [.int .i64 (x.pos : Int)]))[j]? := by
  induction h generalizing k with
  | nil => simp at hk
  | cons h1 h2 ih =>
    cases k with
    | zero =>
      simp at hk
      subst hk
      refine ⟨_, h1, fun j hj => ?_⟩
      rw [List.getElem?_append_left (by simp [h1.length]; omega)]
      simp
    | succ k =>
      obtain ⟨c, g1, g2⟩ := ih (by simpa using hk)
      refine ⟨c, g1, fun j hj => ?_⟩
      rw [List.getElem?_append_right (by simp [h1.length]; omega), ← g2 j hj]
      congr 1
      simp [h1.length]
      omega
theorem rule_cells {w : World} {P : Nat → Prop} {l : List Ru} {g : Nat} {cur : Array Value} {cs : List Value} {n : Nat} (hn : l.length = n) (hcur : w.heap[g]? = some (.cells cur 42 (0, 0))) (ht : cur.toList.take (n * 10) = cs) (h : RuReps w P l cs) {k : Nat} {x : Ru} (hk : l[k]? = some x) :
    ∃ a t c sa sn sc, Rep w P x.body (ndC a t c (.slice sa sn sc) x.body.pos) ∧ w.cell? ⟨g, k * 10, none⟩ = some (.string (mkS x.name)) ∧ w.cell? ⟨g, k * 10 + 1, none⟩ = some (.int .i64 (a : Int)) ∧ w.cell? ⟨g, k * 10 + 1 + 1, none⟩ = some (.string (mkS t)) ∧ w.cell? ⟨g, k * 10 + 1 + 2, none⟩ = some (.int .u64 (wd c 0)) ∧ w.cell? ⟨g, k * 10 + 1 + 3, none⟩ = some (.int .u64 (wd c 1)) ∧ w.cell? ⟨g, k * 10 + 1 + 4, none⟩ = some (.int .u64 (wd c 2)) ∧ w.cell? ⟨g, k * 10 + 1 + 5, none⟩ = some (.int .u64 (wd c 3)) ∧ w.cell? ⟨g, k * 10 + 1 + 6, none⟩ = some (.slice sa sn sc) ∧ w.cell? ⟨g, k * 10 + 1 + 7, none⟩ = some (.int .i64 (x.body.pos : Int)) ∧ w.cell? ⟨g, k * 10 + 9, none⟩ = some (.int .i64 (x.pos : Int)) := by
  subst ht
  obtain ⟨c, h1, h2⟩ := h.get hk
  obtain ⟨a, t, y, v, l', e1, e2, h3⟩ := h1.form
  obtain ⟨sa, sn, sc, rfl⟩ := h3.slice
  subst e2
  have hlt : k < n := by rw [← hn]; exact (List.getElem?_eq_some_iff.1 hk).1
  have key : ∀ j, j < 10 → w.cell? ⟨g, k * 10 + j, none⟩ = (Value.string (mkS x.name) :: (ndC a t y (.slice sa sn sc) x.body.pos ++ [.int .i64 (x.pos : Int)]))[j]? := fun j hj => by
    rw [(cells_at hcur).1, ← h2 j hj, List.getElem?_take, if_pos (by omega), Array.getElem?_toList]
  exact ⟨a, t, y, sa, sn, sc, h1, key 0 (by decide), key 1 (by decide), key 2 (by decide), key 3 (by decide), key 4 (by decide), key 5 (by decide), key 6 (by decide), key 7 (by decide), key 8 (by decide), key 9 (by decide)⟩
theorem below_drew2 {w w1 : World} (h : Below w.drew.heap.size w.drew w1) : Below w.heap.size w w1.drew := ((drew_below w).trans h).trans ((drew_below w1).mono (by have := h.size; simpa using this))
set_option maxRecDepth 100000 in
set_option maxHeartbeats 6400000 in
theorem same_nil (at_ : Bool) (w : World) : Calls Tryz.prog 21 #[.agg #[.slice none 0 0], .agg #[.slice none 0 0], .bool at_] w (Ans (.bool true) w) := by
  have hm1 := cell_alloc_lt
  go_enter Tryz.func21, Tryz.ntmps21
  repeat (first | go_values | go_skip | go_guarded | go_step | go_upon)
  refine wp_loop_rounds 1 ?_
  rw [rounds_succ]
  repeat (first | go_values | go_skip | go_guarded | go_step | go_upon)
  go_ret
  exact ⟨rfl, (by repeat (first | exact Below.refl _ _ | assumption | refine bal ?_ _ | refine bdr ?_ | refine bdrn ?_ _ | (refine bset ?_ (by first | exact Nat.le_refl _ | (simp; done) | (simp; omega) | omega) _) | refine bstep ?_ (by assumption)))⟩
set_option maxRecDepth 100000 in
set_option maxHeartbeats 6400000 in
theorem same_rules (at_ : Bool) {n g g' cap cap' : Nat} {l l' : List Ru} {cur cur' : Array Value} {cs cs' : List Value} {P P' : Nat → Prop} (w : World) (hl : SameG at_ l l') (hn : l.length = n) (_ : n ≤ cap) (_ : n ≤ cap') (hmax : n ≤ maxLen) (h1 : w.heap[g]? = some (.cells cur 42 (0, 0))) (h2 : w.heap[g']? = some (.cells cur' 42 (0, 0))) (e1 : cur.toList.take (n * 10) = cs) (e2 : cur'.toList.take (n * 10) = cs') (r1 : RuReps w P l cs) (r2 : RuReps w P' l' cs') (hP : ∀ b, P b → b < w.heap.size) (hP' : ∀ b, P' b → b < w.heap.size) :
    Calls Tryz.prog 21 #[.agg #[.slice (some ⟨g, 0, none⟩) n cap], .agg #[.slice (some ⟨g', 0, none⟩) n cap'], .bool at_] w (Ans (.bool true) w) := by
  have hm1 := cell_alloc_lt
  have HL := Lib.hid hl
  have HN := Lib.hid hn
  have hn' : l'.length = n := by rw [← hl.length]; exact hn
  have HN' := Lib.hid hn'
  have R1 := Lib.hid r1
  have R2 := Lib.hid r2
  have H1 := Lib.hid h1
  have H2 := Lib.hid h2
  have E1 := Lib.hid e1
  have E2 := Lib.hid e2
  have HP := Lib.hid hP
  have HP' := Lib.hid hP'
  unfold maxLen at hmax
  clear hl hn hn' r1 r2 h1 h2 hP hP' e1 e2
  go_enter Tryz.func21, Tryz.ntmps21
  repeat (first | go_values | go_skip | go_guarded | go_step | go_upon)
  go_loopw [7] (fun tt wr => ∃ j : Nat, tt = .int .i64 (j : Int) ∧ j ≤ n ∧ Below ((w.alloc (.cells #[.slice (some ⟨g, 0, none⟩) n cap] 24)).alloc (.cells #[.slice (some ⟨g', 0, none⟩) n cap'] 24)).heap.size ((w.alloc (.cells #[.slice (some ⟨g, 0, none⟩) n cap] 24)).alloc (.cells #[.slice (some ⟨g', 0, none⟩) n cap'] 24)) wr) (fun tt _ => n - (intOf tt).toNat)
  case atStart => exact ⟨0, rfl, Nat.zero_le _, Below.refl _ _⟩
  case round =>
    obtain ⟨j, rfl, hj, hbr⟩ := hrel
    have HB := Lib.hid hbr
    have hA := (hbr.block w.heap.size (by simp; omega)).trans ((RowKit.Below.heap_alloc _ _ _ (by simp)).trans (heap_alloc_new w (.cells #[.slice (some ⟨g, 0, none⟩) n cap] 24)))
    have hB := (hbr.block (w.heap.size + 1) (by simp)).trans (alloc2_new w (.cells #[.slice (some ⟨g, 0, none⟩) n cap] 24) (.cells #[.slice (some ⟨g', 0, none⟩) n cap'] 24))
    have s1 : wr.cell? ⟨w.heap.size, 0, none⟩ = some (.slice (some ⟨g, 0, none⟩) n cap) := (cells_at hA).1 0
    have s2 : wr.cell? ⟨w.heap.size + 1, 0, none⟩ = some (.slice (some ⟨g', 0, none⟩) n cap') := (cells_at hB).1 0
    have q1 := (cells_at hA).2.2
    have q2 := (cells_at hB).2.2
    have hw : Below w.heap.size w wr := (bal (bal (Below.refl _ w) _) _).trans (hbr.mono (by simp; omega))
    have HW := Lib.hid hw
    clear hA hB hbr hw
    by_cases hlt : j < n
    · obtain ⟨y, hy⟩ : ∃ y, l[j]? = some y := ⟨l[j]'(by rw [HN.out]; exact hlt), List.getElem?_eq_getElem (by rw [HN.out]; exact hlt)⟩
      obtain ⟨y', hy'⟩ : ∃ y', l'[j]? = some y' := ⟨l'[j]'(by rw [HN'.out]; exact hlt), List.getElem?_eq_getElem (by rw [HN'.out]; exact hlt)⟩
      obtain ⟨hnm, hsb, hpp⟩ := HL.out.get hy hy'
      obtain ⟨k1, t1, x1, sa, sn, sc, q0, a9, a0, a1, a2, a3, a4, a5, a6, a7, a8⟩ := rule_cells HN.out ((HW.out.block g (Array.getElem?_eq_some_iff.1 H1.out).1).trans H1.out) E1.out (R1.out.mono (fun b hb => HW.out.block b (HP.out b hb)) (fun _ h => h)) hy
      obtain ⟨k2, t2, x2, sa2, sn2, sc2, q0', b9, b0, b1, b2, b3, b4, b5, b6, b7, b8⟩ := rule_cells HN'.out ((HW.out.block g' (Array.getElem?_eq_some_iff.1 H2.out).1).trans H2.out) E2.out (R2.out.mono (fun b hb => HW.out.block b (HP'.out b hb)) (fun _ h => h)) hy'
      have hz := HW.out.size
      have qg : g < wr.heap.size := Nat.lt_of_lt_of_le (Array.getElem?_eq_some_iff.1 H1.out).1 hz
      have qg' : g' < wr.heap.size := Nat.lt_of_lt_of_le (Array.getElem?_eq_some_iff.1 H2.out).1 hz
      have HC := Lib.hid (fun (w' : World) (e : w'.heap = wr.heap) => same_any at_ y.body y'.body w' P P' _ _ hsb (q0.mono (w' := w') (fun b _ => by rw [e]) (fun _ h => h)) (q0'.mono (w' := w') (fun b _ => by rw [e]) (fun _ h => h)) (fun b hb => by rw [e]; exact Nat.lt_of_lt_of_le (HP.out b hb) hz) (fun b hb => by rw [e]; exact Nat.lt_of_lt_of_le (HP'.out b hb) hz))
      rw [← hnm] at b9
      clear hy hy' q0 q0' hsb hnm
      have d1 : decide ((j : Int) < n) = true := by simpa using hlt
      repeat (first | go_values | go_skip | go_guarded | go_step | go_upon)
      go_still_tail 13, (by kernel_rfl)
      repeat (first | go_values | go_skip | go_guarded | go_step | go_upon)
      refine (HC.out wr.drew rfl).mono ?_
      rintro e w1 ⟨rfl, hb1⟩
      obtain ⟨hc1, hf1⟩ := bcell hb1
      simp only [World.size_drew] at hc1
      have hz1 := hb1.size
      simp only [World.size_drew] at hz1
      dsimp only
      repeat (first | go_values | go_skip | go_guarded | go_step | go_upon)
      have s1' : w1.cell? ⟨w.heap.size, 0, none⟩ = some (.slice (some ⟨g, 0, none⟩) n cap) := (hc1 _ _ q1).trans s1
      have s2' : w1.cell? ⟨w.heap.size + 1, 0, none⟩ = some (.slice (some ⟨g', 0, none⟩) n cap') := (hc1 _ _ q2).trans s2
      have a8' : w1.cell? ⟨g, j * 10 + 9, none⟩ = some (.int .i64 (y.pos : Int)) := (hc1 _ _ qg).trans a8
      have a9' : w1.cell? ⟨g, j * 10, none⟩ = some (.string (mkS y.name)) := (hc1 _ _ qg).trans a9
      have b8' : w1.cell? ⟨g', j * 10 + 9, none⟩ = some (.int .i64 (y'.pos : Int)) := (hc1 _ _ qg').trans b8
      have b9' : w1.cell? ⟨g', j * 10, none⟩ = some (.string (mkS y.name)) := (hc1 _ _ qg').trans b9
      clear a0 a1 a2 a3 a4 a5 a6 a7 b0 b1 b2 b3 b4 b5 b6 b7 hm1 hc1 hf1 s1 s2 a8 a9 b8 b9
      cases at_ with
      | false =>
        clear hpp
        with_reducible refine wp_region_still_lit (by kernel_rfl) (by kernel_rfl) ?_
        repeat
          with_reducible refine wpStill_step (fun K hK => ?_)
          go_simp
          with_reducible refine hK _ ?_
          clear hK K
        with_reducible refine wpStill_nil ?_
        simp only [Exit.then]
        repeat (first | go_values | go_skip | go_guarded | go_step | go_upon)
        exact ⟨⟨j + 1, by go_num, by omega, HB.out.trans (below_drew2 hb1 |>.mono HB.out.size)⟩, by simp [intOf]; omega⟩
      | true =>
        rw [← hpp rfl] at b8'
        clear hpp
        with_reducible refine wp_region_still_lit (by kernel_rfl) (by kernel_rfl) ?_
        repeat
          with_reducible refine wpStill_step (fun K hK => ?_)
          go_simp
          with_reducible refine hK _ ?_
          clear hK K
        with_reducible refine wpStill_nil ?_
        simp only [Exit.then]
        repeat (first | go_values | go_skip | go_guarded | go_step | go_upon)
        exact ⟨⟨j + 1, by go_num, by omega, HB.out.trans (below_drew2 hb1 |>.mono HB.out.size)⟩, by simp [intOf]; omega⟩
    · have d1 : decide (j < n) = false := by simpa using hlt
      clear hlt
      repeat (first | go_values | go_skip | go_guarded | go_step | go_upon)
      go_ret
      exact ⟨rfl, (bal (bal (Below.refl _ w) _) _).trans (HB.out.mono (by simp; omega))⟩
end Go.Proofs.YtjlcoldnhbkcgaaGreatDoor
