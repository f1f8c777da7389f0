/- Reading rules, plain; a grammar in memory, as it is built. | Parse's deferred closure: where a fault is thrown, and where none is. | The walk of Parse. | A drawn region whose panics' post may speak of slots that the region does not write. -/
import Derived.Test.YtcogimlekmnpjaaDoorG21
import Derived.Test.YtcogimlekmnpjaaDoorG16
import Derived.Deep.RegionHeld3
namespace Go.Proofs.YtcogimlekmnpjaaDoor
open Go.RowKit Go.Sort

theorem tokAt_kind {s : List UInt8} {a n : Nat} {t : Tok} (e : tokAt s a = .inr (t, n)) : t.kind ≠ 6 := by
  unfold tokAt at e
  split at e
  · cases e
  split at e
  · simp at e; obtain ⟨e1, _⟩ := e; subst e1; simp
  split at e
  · simp at e; obtain ⟨e1, _⟩ := e; subst e1; simp
  split at e
  · simp at e; obtain ⟨e1, _⟩ := e; subst e1; simp
  split at e
  · split at e
    · cases e
    · simp at e; obtain ⟨e1, _⟩ := e; subst e1; simp
  split at e
  · split at e
    · cases e
    · simp at e; obtain ⟨e1, _⟩ := e; subst e1; simp
  cases e
theorem ends_snoc {l : List Tok} (h : ∀ t ∈ l, t.kind ≠ 6) {e : Tok} (he : e.kind = 6) : EndsT (l ++ [e]) := by
  induction l with
  | nil => exact he
  | cons t l ih =>
    have h1 := ih (fun u hu => h u (by simp [hu]))
    have h2 := h t (by simp)
    cases hl : l ++ [e] with
    | nil => simp at hl
    | cons u m =>
      rw [hl] at h1
      rw [List.cons_append, hl]
      exact ⟨h2, h1⟩
theorem toksGo_ends {s : List UInt8} : ∀ {f a : Nat} {l m : List Tok}, toksGo s f a l = .inr m → a ≤ s.length → l.length ≤ a → (∀ t ∈ l, t.kind ≠ 6) → EndsT m ∧ m.length ≤ s.length + 1 := by
  intro f
  induction f with
  | zero => intro a l m h _ _ _; cases h
  | succ f ih =>
    intro a l m h ha hl hk
    rw [toksGo] at h
    split at h
    · have e := Sum.inr.inj h
      subst e
      exact ⟨ends_snoc hk rfl, by simp; omega⟩
    next h1 =>
    split at h
    · next h2 =>
      have := noteEnd_bd (s := s) (a := a) (by omega) (by rw [h2]; decide)
      exact ih h (by omega) (by omega) hk
    next h2 =>
    split at h
    · exact ih h (by omega) (by omega) hk
    split at h
    · cases h
    · next t n e =>
      have hb := tokAt_bd (by omega) e
      refine ih h (by omega) (by simp; omega) (fun u hu => ?_)
      rcases List.mem_append.1 hu with hu | hu
      · exact hk u hu
      · rw [List.mem_singleton.1 hu]; exact tokAt_kind e
theorem toks_ends {s : List UInt8} {l : List Tok} (h : toks s = .inr l) : EndsT l ∧ l.length ≤ s.length + 1 := toksGo_ends h (Nat.zero_le _) (Nat.le_refl _) (fun _ h => by cases h)
/-- A rule. -/
structure Ru where
  name : List UInt8
  body : Nd
  pos : Nat
def nameT : List Tok → List UInt8
  | [] => []
  | t :: _ => t.text
def pRules : Nat → List Tok → List Ru → Option (PR (List Ru))
  | 0, _, _ => none
  | f + 1, rs, l =>
    if l.length ≠ 0 ∧ kindT rs = 6 then some (.ok l rs)
    else if l.length = 64 ∧ kindT rs = 1 then some (.err 2 (posT rs))
    else if kindT rs ≠ 1 then some (.err (badE rs) (posT rs))
    else if kindT rs.tail ≠ 2 then some (.err (badE rs.tail) (posT rs.tail))
    else match pChoice f 0 rs.tail.tail with
      | none => none
      | some (.err c x) => some (.err c x)
      | some (.ok n rs2) => pRules f rs2 (l ++ [⟨nameT rs, n, posT rs⟩])
theorem pRules_mono1 : ∀ (f : Nat) (rs : List Tok) (l : List Ru) (r : PR (List Ru)), pRules f rs l = some r → pRules (f + 1) rs l = some r := by
  intro f
  induction f with
  | zero => intro rs l r h; cases h
  | succ f ih =>
    intro rs l r h
    rw [pRules] at h ⊢
    split at h
    · next h1 => rw [if_pos h1]; exact h
    next h1 =>
    rw [if_neg h1]
    split at h
    · next h2 => rw [if_pos h2]; exact h
    next h2 =>
    rw [if_neg h2]
    split at h
    · next h3 => rw [if_pos h3]; exact h
    next h3 =>
    rw [if_neg h3]
    split at h
    · next h4 => rw [if_pos h4]; exact h
    next h4 =>
    rw [if_neg h4]
    cases e : pChoice f 0 rs.tail.tail with
    | none => rw [e] at h; cases h
    | some x =>
      rw [(p_mono1 f).1 _ _ _ e]
      rw [e] at h
      cases x with
      | err c x => exact h
      | ok n rs2 => exact ih _ _ _ h
theorem pRules_mono {f f' : Nat} {rs : List Tok} {l : List Ru} {r : PR (List Ru)} (h : pRules f rs l = some r) (hf : f ≤ f') : pRules f' rs l = some r := by
  obtain ⟨k, rfl⟩ := Nat.exists_eq_add_of_le hf
  clear hf
  induction k with
  | zero => exact h
  | succ k ih => exact pRules_mono1 _ _ _ _ ih
theorem pRules_det {f f' : Nat} {rs : List Tok} {l : List Ru} {r r' : PR (List Ru)} (h : pRules f rs l = some r) (h' : pRules f' rs l = some r') : r = r' := by
  have h1 := pRules_mono h (Nat.le_max_left f f')
  have h2 := pRules_mono h' (Nat.le_max_right f f')
  rw [h1] at h2
  exact Option.some.inj h2
/-- What a source is read as: what is wrong, and where, or the rules. -/
def Reads (s : List UInt8) (r : (Nat × Int) ⊕ List Ru) : Prop := match lexed s with
  | .inl er => r = .inl er
  | .inr l => ∃ f, (∃ c x, pRules f l [] = some (.err c x) ∧ r = .inl (c, (x : Int))) ∨ (∃ g rs, pRules f l [] = some (.ok g rs) ∧ r = .inr g)
theorem Reads.det {s : List UInt8} {r r' : (Nat × Int) ⊕ List Ru} (h : Reads s r) (h' : Reads s r') : r = r' := by
  unfold Reads at h h'
  cases e : lexed s with
  | inl er =>
    rw [e] at h h'
    exact Eq.trans h (Eq.symm h')
  | inr l =>
    rw [e] at h h'
    obtain ⟨f, h⟩ := h
    obtain ⟨f', h'⟩ := h'
    rcases h with ⟨c, x, h, rfl⟩ | ⟨g, rs, h, rfl⟩ <;> rcases h' with ⟨c', x', h', rfl⟩ | ⟨g', rs', h', rfl⟩ <;> have e := pRules_det h h' <;> cases e <;> rfl
/-- From a state of the rules on, their end is the source's. -/
def RulesOn (rs rs' : List Tok) (l : List Ru) : Prop := ∀ f r, pRules f rs' l = some r → ∃ f', pRules f' rs [] = some r
theorem RulesOn.next {f : Nat} {t a : Tok} {rs rs' rs2 : List Tok} {l : List Ru} {n : Nd} (h : RulesOn rs (t :: a :: rs') l) (h6 : t.kind = 1) (h64 : l.length ≠ 64) (ha : a.kind = 2) (hp : pChoice f 0 rs' = some (.ok n rs2)) : RulesOn rs rs2 (l ++ [⟨t.text, n, t.pos⟩]) := fun f2 r h2 => h (f + f2 + 1) r (by
  rw [pRules, if_neg (by show ¬ (_ ∧ t.kind = 6); omega), if_neg (by omega), if_neg (by show ¬ (t.kind ≠ 1); omega), if_neg (by show ¬ (a.kind ≠ 2); omega)]
  rw [show (t :: a :: rs').tail.tail = rs' from rfl, pChoice_mono hp (by omega)]
  exact pRules_mono h2 (by omega))
theorem RulesOn.err {f c x : Nat} {t a : Tok} {rs rs' : List Tok} {l : List Ru} (h : RulesOn rs (t :: a :: rs') l) (h6 : t.kind = 1) (h64 : l.length ≠ 64) (ha : a.kind = 2) (hp : pChoice f 0 rs' = some (.err c x)) : ∃ f', pRules f' rs [] = some (.err c x) := h (f + 1) _ (by
  rw [pRules, if_neg (by show ¬ (_ ∧ t.kind = 6); omega), if_neg (by omega), if_neg (by show ¬ (t.kind ≠ 1); omega), if_neg (by show ¬ (a.kind ≠ 2); omega)]
  rw [show (t :: a :: rs').tail.tail = rs' from rfl, hp])
theorem RulesOn.noArrow {t a : Tok} {rs rs' : List Tok} {l : List Ru} (h : RulesOn rs (t :: a :: rs') l) (h6 : t.kind = 1) (h64 : l.length ≠ 64) (ha : a.kind ≠ 2) : ∃ f', pRules f' rs [] = some (.err (badE (a :: rs')) a.pos) := h 1 _ (by
  rw [pRules, if_neg (by show ¬ (_ ∧ t.kind = 6); omega), if_neg (by omega), if_neg (by show ¬ (t.kind ≠ 1); omega), if_pos (by exact ha)]
  rfl)
theorem RulesOn.noName {t : Tok} {rs rs' : List Tok} {l : List Ru} (h : RulesOn rs (t :: rs') l) (h6 : l.length = 0 ∨ t.kind ≠ 6) (h1 : t.kind ≠ 1) : ∃ f', pRules f' rs [] = some (.err (badE (t :: rs')) t.pos) := h 1 _ (by
  rw [pRules, if_neg (by show ¬ (_ ∧ t.kind = 6); omega), if_neg (by show ¬ (_ ∧ t.kind = 1); omega), if_pos (by exact h1)]
  rfl)
theorem RulesOn.many {t : Tok} {rs rs' : List Tok} {l : List Ru} (h : RulesOn rs (t :: rs') l) (h64 : l.length = 64) (h1 : t.kind = 1) : ∃ f', pRules f' rs [] = some (.err 2 t.pos) := h 1 _ (by
  rw [pRules, if_neg (by show ¬ (_ ∧ t.kind = 6); omega), if_pos ⟨h64, h1⟩]
  rfl)
theorem RulesOn.stop {t : Tok} {rs rs' : List Tok} {l : List Ru} (h : RulesOn rs (t :: rs') l) (h0 : l.length ≠ 0) (h6 : t.kind = 6) : ∃ f', pRules f' rs [] = some (.ok l (t :: rs')) := h 1 _ (by
  rw [pRules, if_pos ⟨h0, h6⟩])
/-- These cells are those rules. -/
inductive RuReps (w : World) (P : Nat → Prop) : List Ru → List Value → Prop
  | nil : RuReps w P [] []
  | cons {x : Ru} {l : List Ru} {c cs : List Value} : Rep w P x.body c → RuReps w P l cs → RuReps w P (x :: l) ((.string (mkS x.name) :: (c ++ [.int .i64 (x.pos : Int)])) ++ cs)
theorem RuReps.mono {w w' : World} {P P' : Nat → Prop} (hb : ∀ b, P b → w'.heap[b]? = w.heap[b]?) (hP : ∀ b, P b → P' b) {l : List Ru} {cs : List Value} (h : RuReps w P l cs) : RuReps w' P' l cs := by
  induction h with
  | nil => exact .nil
  | cons h1 _ ih => exact .cons (h1.mono hb hP) ih
theorem Rep.length {w : World} {P : Nat → Prop} {n : Nd} {c : List Value} (h : Rep w P n c) : c.length = 8 := by
  cases h; rfl
theorem RuReps.length {w : World} {P : Nat → Prop} {l : List Ru} {cs : List Value} (h : RuReps w P l cs) : cs.length = l.length * 10 := by
  induction h with
  | nil => rfl
  | cons h1 _ ih => simp [h1.length, ih]; omega
theorem RuReps.snoc {w : World} {P : Nat → Prop} {l : List Ru} {cs : List Value} {x : Ru} {c : List Value} (h : RuReps w P l cs) (hn : Rep w P x.body c) : RuReps w P (l ++ [x]) (cs ++ (.string (mkS x.name) :: (c ++ [.int .i64 (x.pos : Int)]))) := by
  induction h with
  | nil => simpa using RuReps.cons hn .nil
  | cons h1 _ ih =>
    rw [List.cons_append, List.append_assoc]
    exact .cons h1 ih
/-- A grammar's rules, in a row of their own from a number on. -/
structure GV (B : Nat) (gs : List Ru) (v : Value) (cs : List Value) (w : World) : Prop where
  own : w.ownsRow B 39 10 v gs.length cs
  reps : RuReps w (fun b => B ≤ b ∧ b < w.heap.size ∧ v.ownBlock ≠ some b) gs cs
theorem GV.gby {B R : Nat} {gs : List Ru} {v : Value} {cs : List Value} {w w' : World} (h : GV B gs v cs w) (hg : w.grownBy w' (some R)) (hR : R < B) : GV B gs v cs w' := by
  refine ⟨h.own.kept hg ?_, RuReps.mono (fun b hb => hg.block b hb.2.1 (fun e => by have := Option.some.inj e; have := hb.1; omega)) (fun b hb => ⟨hb.1, Nat.lt_of_lt_of_le hb.2.1 hg.size, hb.2.2⟩) h.reps⟩
  cases hb : v.ownBlock with
  | none => left; rfl
  | some k => right; have := (h.own.lt k hb).1; simp; omega
theorem GV.below {B : Nat} {gs : List Ru} {v : Value} {cs : List Value} {w w' : World} (h : GV B gs v cs w) (hb : Below w.heap.size w w') : GV B gs v cs w' :=
  ⟨owns_below h.own hb, RuReps.mono (fun b h => hb.block b h.2.1) (fun _ h => ⟨h.1, Nat.lt_of_lt_of_le h.2.1 hb.size, h.2.2⟩) h.reps⟩
theorem GV.push {B gg cap lo : Nat} {gs : List Ru} {x : Ru} {v : Value} {cs c : List Value} {o : Obj} {w w4 : World} (h : GV B gs v cs w) (hg : (w.alloc o).grownBy w4 v.ownBlock) (hat : v.ownBlock = some gg ∨ gg = w.heap.size + 1)
    (hlo : ∀ k, v.ownBlock = some k → k < lo) (hBl : B ≤ lo) (hn : Rep w (Blk lo w.heap.size) x.body c)
    (hown : w4.ownsRow B 39 10 (.slice (some ⟨gg, 0, none⟩) (gs.length + 1) cap) (gs.length + 1) (cs ++ (.string (mkS x.name) :: (c ++ [.int .i64 (x.pos : Int)])))) : GV B (gs ++ [x]) (.slice (some ⟨gg, 0, none⟩) (gs.length + 1) cap) (cs ++ (.string (mkS x.name) :: (c ++ [.int .i64 (x.pos : Int)]))) w4 := by
  have hz := hg.size
  simp at hz
  have key : ∀ b, B ≤ b → b < w.heap.size → v.ownBlock ≠ some b → b ≠ gg ∧ w4.heap[b]? = w.heap[b]? := by
    intro b h1 h2 h3
    have hne : b ≠ gg := by
      rintro rfl
      rcases hat with e | e
      · exact h3 e
      · omega
    refine ⟨hne, ?_⟩
    rw [hg.block b (by simp; omega) (fun e => h3 e.symm)]
    exact RowKit.Below.heap_alloc _ _ _ h2
  refine ⟨by rw [List.length_append]; exact hown, RuReps.snoc ?_ ?_⟩
  · exact RuReps.mono (fun b hb => (key b hb.1 hb.2.1 hb.2.2).2) (fun b hb => ⟨hb.1, by have := hb.2.1; omega, fun e => (key b hb.1 hb.2.1 hb.2.2).1 (Option.some.inj e).symm⟩) h.reps
  · have k2 : ∀ b, Blk lo w.heap.size b → v.ownBlock ≠ some b := fun b hb e => by have := hlo b e; have := hb.lo; omega
    exact Rep.mono (fun b hb => (key b (by have := hb.lo; omega) hb.hi (k2 b hb)).2) (fun b hb => ⟨by have := hb.lo; omega, by have := hb.hi; omega, fun e => (key b (by have := hb.lo; omega) hb.hi (k2 b hb)).1 (Option.some.inj e).symm⟩) hn
/-- A grammar's rules as they lie in memory. -/
def GRep (w : World) (P : Nat → Prop) (gs : List Ru) (v : Value) : Prop := (gs = [] ∧ v = .slice none 0 0) ∨ ∃ b cap cur cs, v = .slice (some ⟨b, 0, none⟩) gs.length cap ∧ P b ∧ w.heap[b]? = some (.cells cur 39 (0, 0)) ∧ gs.length ≤ cap ∧ gs.length ≤ maxLen ∧ 0 < gs.length ∧ cur.toList.take (gs.length * 10) = cs ∧ RuReps w P gs cs
theorem GRep.mono {w w' : World} {P P' : Nat → Prop} (hb : ∀ b, P b → w'.heap[b]? = w.heap[b]?) (hP : ∀ b, P b → P' b) {gs : List Ru} {v : Value} (h : GRep w P gs v) : GRep w' P' gs v := by
  rcases h with h | ⟨b, cap, cur, cs, h1, h2, h3, h4, hm, h5, h6, h7⟩
  · exact .inl h
  · exact .inr ⟨b, cap, cur, cs, h1, hP b h2, (hb b h2).trans h3, h4, hm, h5, h6, h7.mono hb hP⟩
theorem GV.rep {B : Nat} {gs : List Ru} {v : Value} {cs : List Value} {w : World} (h : GV B gs v cs w) (h0 : 0 < gs.length) : GRep w (Blk B w.heap.size) gs v := by
  rcases h.own.2 with ⟨h1, h2⟩ | ⟨g, cap, cur, h1, h2, h3, h4, h5, h6, h7⟩
  · omega
  · exact .inr ⟨g, cap, cur, cs, h1, ⟨h2, (Array.getElem?_eq_some_iff.1 h3).1⟩, h3, h4, Nat.le_trans h4 h5, h0, h7, h.reps.mono (fun _ _ => rfl) (fun b hb => ⟨hb.1, hb.2.1⟩)⟩
end Go.Proofs.YtcogimlekmnpjaaDoor
namespace Go.Proofs.YtcogimlekmnpjaaDoor
open Go.RowKit Go.Sort

set_option maxRecDepth 100000 in
set_option maxHeartbeats 1600000 in
theorem catch_fault (b2 b3 p : Nat) (v : Value) (older : List PanicEntry) (w : World) (h2 : w.heap[b2]? = some (.cells #[v] 25 (0, 0))) (h3 : w.heap[b3]? = some (.cells #[.nilIface] 27 (0, 0))) (hne : b2 ≠ b3) :
    CallsD Tryd.prog 8 #[.pointer (some ⟨b2, 0, none⟩), .pointer (some ⟨b3, 0, none⟩)] (.panicking ({ v := .iface 44 (.pointer (some ⟨p, 0, none⟩)), recovered := false } :: older)) w fun e u' w' =>
      e = .returned (.tuple #[]) ∧ u' = .panicking ({ v := .iface 44 (.pointer (some ⟨p, 0, none⟩)), recovered := true } :: older) ∧ w' = (w.setCell ⟨b2, 0, none⟩ (.slice none 0 0)).setCell ⟨b3, 0, none⟩ (.iface 44 (.pointer (some ⟨p, 0, none⟩))) := by
  obtain ⟨c2, f2, q2⟩ := cells_at h2
  obtain ⟨c3, f3, q3⟩ := cells_at h3
  have d2 : w.cell? ⟨b2, 0, none⟩ = some v := c2 0
  have d3 : w.cell? ⟨b3, 0, none⟩ = some .nilIface := c3 0
  have d4 : (w.setCell ⟨b2, 0, none⟩ (.slice none 0 0)).cell? ⟨b3, 0, none⟩ = some .nilIface := (cell_set_ne w _ _ b3 0 (fun e => hne (by have e2 : b3 = b2 := e; exact e2.symm))).trans d3
  have hta : ∀ (w : World) (a : Option Addr), (Instr.typeAssert (.iface 44 (.pointer a)) 20 44 true).run Tryd.prog w = .ok (.tuple #[.pointer a, .bool true]) w := fun _ _ => by kernel_rfl
  refine callsD_of_wpS Tryd.func8 rfl fun c₀ cs hu => ?_
  apply wpS_seq
  apply wpS_region
  simp [wpOpsS, go_sem, recoverD, hu, Tryd.ntmps8, Exit.thenS]
  refine wpS_of_wp ?_
  repeat (first | go_values | go_skip | go_guarded | go_step | go_upon)
  refine ⟨rfl, _, rfl, .tuple #[], ?_, rfl, rfl, rfl⟩
  simp [results, Tryd.results8, go_sem]
theorem catch_none (b2 b3 : Nat) (w : World) :
    CallsD Tryd.prog 8 #[.pointer (some ⟨b2, 0, none⟩), .pointer (some ⟨b3, 0, none⟩)] .returning w fun e u' w' => e = .returned (.tuple #[]) ∧ u' = .returning ∧ w' = w := by
  refine callsD_of_wpS Tryd.func8 rfl fun c₀ cs hu => ?_
  apply wpS_seq
  apply wpS_region
  simp [wpOpsS, go_sem, recoverD, hu, Tryd.ntmps8, Exit.thenS]
  refine wpS_of_wp ?_
  repeat (first | go_values | go_skip | go_guarded | go_step | go_upon)
  simp [bodyPostS, results, Tryd.results8, go_sem]
  cases c₀
  simp_all
end Go.Proofs.YtcogimlekmnpjaaDoor
namespace Go.Proofs.YtcogimlekmnpjaaDoor
open Go.RowKit Go.Sort

/-- What Parse answers. -/
def ParseP (s : List UInt8) (w : World) (e : Ending) (w' : World) : Prop := Below w.heap.size w w' ∧ ∃ r, Reads s r ∧ match r with
  | .inl (c, x) => AnsFaultI c x w (fun v => .tuple #[.agg #[.slice none 0 0], v]) e w'
  | .inr g => ∃ v, e = .returned (.tuple #[.agg #[v], .nilIface]) ∧ GRep w' (Fresh w w') g v
set_option maxRecDepth 100000 in
set_option maxHeartbeats 6400000 in
theorem syn_no (S : ByteArray) (w : World) (hg : Laid w) (hs : S.size ≤ 140737488355328) {er : Nat × Int} (hL : lexed (bl S) = .inl er) :
    Calls Tryd.prog 5 #[.string S] w (ParseP (bl S) w) := by
  have hm1 := cell_alloc_lt
  have hm2 := frozen_alloc_lt
  go_enter_defers Tryd.func5, Tryd.ntmps5
  repeat (first | go_values | go_skip | go_guarded | go_step | go_upon)
  refine (lexed_no S _ (hg.below (bal (bal (Below.refl _ _) _) _) hg.pos) hs hL).mono ?_
  rintro e w1 ⟨⟨p, rfl, hp, hl⟩, hb1⟩
  simp only [World.size_alloc] at hl
  have h2 := (hb1.block w.heap.size (by simp; omega)).trans ((RowKit.Below.heap_alloc _ _ _ (by simp)).trans (heap_alloc_new w (.cells #[.slice none 0 0] 25)))
  have h3 := (hb1.block (w.heap.size + 1) (by simp)).trans (alloc2_new w (.cells #[.slice none 0 0] 25) (.cells #[.nilIface] 27))
  obtain ⟨c2, f2, q2⟩ := cells_at h2
  obtain ⟨c3, f3, q3⟩ := cells_at h3
  have d2 : w1.cell? ⟨w.heap.size, 0, none⟩ = some (.slice none 0 0) := c2 0
  have d3 : w1.cell? ⟨w.heap.size + 1, 0, none⟩ = some .nilIface := c3 0
  have HB := Lib.hid hb1
  have HP := Lib.hid hp
  have HR := Lib.hid (show Reads (bl S) (.inl er) by unfold Reads; rw [hL])
  clear h2 h3 c2 c3 hp hb1 hL
  dsimp only
  repeat (first | go_values | go_skip | go_guarded | go_step | go_upon)
  have d4 : (w1.setCell ⟨w.heap.size + 1, 0, none⟩ (.iface 44 (.pointer (some ⟨p, 0, none⟩)))).cell? ⟨w.heap.size, 0, none⟩ = some (.slice none 0 0) := (cell_set_ne w1 _ _ _ _ (by simp)).trans d2
  go_region
  repeat (first | go_values | go_skip | go_guarded | go_step | go_upon)
  refine ⟨.tuple #[.agg #[.slice none 0 0], .iface 44 (.pointer (some ⟨p, 0, none⟩))], by simp [results, Tryd.results5, go_sem, d2, d3, cell_set_ne], ?_⟩
  have hF : ∀ (w' : World), w'.heap[p]? = w1.heap[p]? → FaultI p er.1 er.2 w' := fun w' h => h.trans HP.out
  refine ⟨?_, .inl er, HR.out, p, rfl, hF _ ?_, by omega⟩
  · refine Below.drew ?_
    refine bset (bset (bset ((bal (bal (Below.refl _ w) _) _).trans (HB.out.mono (by simp; omega))) (by simp) _) (by simp) _) (by simp) _
  · show (((w1.setCell ⟨w.heap.size + 1, 0, none⟩ _).setCell ⟨w.heap.size, 0, none⟩ _).setCell ⟨w.heap.size + 1, 0, none⟩ _).heap[p]? = _
    rw [heap_setCell_other _ _ _ _ (by simp; omega), heap_setCell_other _ _ _ _ (by simp; omega), heap_setCell_other _ _ _ _ (by simp; omega)]
end Go.Proofs.YtcogimlekmnpjaaDoor
namespace Go.Proofs.YtcogimlekmnpjaaDoor
open Go.RowKit Go.Sort

section
variable {P : Program} {ops : Array Oper} {Q Q' : Exit → Act → World → Prop} {md : Region.Mode} {I : Act → Prop}

theorem wpOp_keep {i : Nat} {K K' : Act → World → Prop} {a : Act} {w : World} (hput : ∀ a v o, ops[i]? = some o → I a → I (a.put o.dst v)) (hdef : ∀ a d, I a → I { a with defers := d :: a.defers })
    (hQ : ∀ c a w, I a → Q' (.panic c) a w → Q (.panic c) a w) (hO : LetsOut Q' → LetsOut Q) (hK : ∀ a w, I a → K a w → K' a w) (ha : I a) (h : wpOp P ops Q' i K a w) : wpOp P ops Q i K' a w := by
  unfold wpOp at *
  cases ho : ops[i]? with
  | none => rw [ho] at h; exact hK _ _ ha h
  | some o =>
    rw [ho] at h
    simp only at h ⊢
    split
    · next hw =>
      rw [if_pos hw] at h
      rcases h with h | ⟨h1, h2⟩
      case inr => exact .inr ⟨h1, hO h2⟩
      refine .inl ?_
      unfold Oper.wp at *
      generalize (execOp a.eval o).run P w = r at *
      cases r with
      | ok n w' =>
        cases n <;> simp only [Oper.upon] at h ⊢
        case value u => exact hK _ _ (hput _ _ _ ho ha) h
        case skip => exact hK _ _ (hput _ _ _ ho ha) h
        case defer d => exact hK _ _ (hput _ _ _ ho (hdef _ _ ha)) h
        case enter f args =>
          refine Calls.mono h fun e w'' he => ?_
          cases e with
          | returned u => exact hK _ _ (hput _ _ _ ho ha) he
          | panicked c => exact hQ _ _ _ ha he
          | outgrown => exact hO he
        case row row args => exact Rows.mono h fun u w'' he => hK _ _ (hput _ _ _ ho ha) he
      | halt x w' =>
        cases x <;> simp only [Oper.upon] at h ⊢
        case panic u => exact hQ _ _ _ ha h
    · next hw =>
      rw [if_neg hw] at h
      exact hK _ _ (hput _ _ _ ho ha) h
theorem wpAny_keep (hput : ∀ (i : Nat) a v o, ops[i]? = some o → I a → I (a.put o.dst v)) (hdef : ∀ a d, I a → I { a with defers := d :: a.defers })
    (hQ : ∀ c a w, I a → Q' (.panic c) a w → Q (.panic c) a w) (hN : ∀ a w, I a → Q' .normal a w → Q .normal a w) (hO : LetsOut Q' → LetsOut Q) :
    ∀ (fuel : Nat) (listed : Array Bool) (a : Act) (w : World), I a → wpAny P md ops Q' fuel listed a w → wpAny P md ops Q fuel listed a w
  | 0, _, _, _, ha, h => ⟨h.1, hN _ _ ha h.2⟩
  | fuel + 1, _, _, _, ha, h => ⟨fun h0 => hN _ _ ha (h.1 h0), fun i hi => wpOp_keep (hput i) hdef hQ hO (fun a' w' ha' h' => wpAny_keep hput hdef hQ hN hO fuel _ a' w' ha' h') ha (h.2 i hi)⟩
end
/-- Two slots hold these. -/
def Holds2 (i j : Nat) (u v : Value) (a : Act) : Prop := a.tmps[i]? = some u ∧ a.tmps[j]? = some v
theorem Holds2.put {i j : Nat} {u v : Value} {a : Act} (h : Holds2 i j u v a) {d : Option Tmp} (hi : d ≠ some i) (hj : d ≠ some j) (x : Value) : Holds2 i j u v (a.put d x) := by
  cases d with
  | none => exact h
  | some k =>
    have h1 : k ≠ i := fun e => hi (by rw [e])
    have h2 : k ≠ j := fun e => hj (by rw [e])
    refine ⟨?_, ?_⟩
    · show (a.tmps.setIfInBounds k x)[i]? = _
      rw [Array.getElem?_setIfInBounds_ne h1]; exact h.1
    · show (a.tmps.setIfInBounds k x)[j]? = _
      rw [Array.getElem?_setIfInBounds_ne h2]; exact h.2
/-- A drawn region in a function that defers: a panic's post is free of the frame, but for what is deferred; two slots that the region does not write are there still. -/
theorem wp_region_free {P : Program} {id : Nat} {ops : Array Oper} {Q : Exit → Act → World → Prop} {S : World → Prop} {a : Act} {w : World} (i j : Nat) (u v : Value) (D : List Deferred) (R : List PanicEntry → World → Prop) (hm : P.follows .mixedOrders = true) (hops : ops.all (fun o => o.dst != some i && o.dst != some j) = true)
    (ha : a.tmps[i]? = some u ∧ a.tmps[j]? = some v) (hQ : ∀ c a w, a.tmps[i]? = some u → a.tmps[j]? = some v → a.defers = D → R c w → Q (.panic c) a w) (hS : S w.drew)
    (h : S w.drew → wpAnyH P .any ops (fun e a w => match e with
      | .panic c => R c w ∧ a.defers = D
      | e => Q e a w) S ops.size (Array.replicate ops.size false) a w.drew) : (Code.region id ops true).wp P Q a w := by
  refine wp_region_any hm (wpAny_keep (I := Holds2 i j u v) (Q' := fun e a w => match e with
      | .panic c => R c w ∧ a.defers = D
      | e => Q e a w) ?_ (fun a d h => h) ?_ (fun _ _ _ h => h) ?_ _ _ _ _ ha (wpAny_of_held _ _ _ _ (h hS)))
  · intro k a v' o ho h
    have h1 := (Array.all_eq_true_iff_forall_mem.1 hops) o (Array.mem_of_getElem? ho)
    simp only [Bool.and_eq_true, bne_iff_ne, ne_eq] at h1
    exact h.put h1.1 h1.2 _
  · rintro c a w ⟨h1, h2⟩ ⟨h3, h4⟩
    exact hQ c a w h1 h2 h4 h3
  · rintro ⟨a, w, h⟩
    exact ⟨a, w, h⟩
end Go.Proofs.YtcogimlekmnpjaaDoor
