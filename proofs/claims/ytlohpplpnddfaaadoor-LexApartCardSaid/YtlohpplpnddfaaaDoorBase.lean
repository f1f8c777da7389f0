/- Small laws for all walks: what a call answers; a region that reads, and whose callees keep what was there. -/
import Derived.WalkKit
import Derived.WalkSpells
import Derived.WalkLawsBesides
import Derived.Lib.Hide
import Derived.Lib.QuietBelow
import Derived.StillTailTactics
import Derived.Deep.DeepCutAuto
namespace Go.Proofs.YtlohpplpnddfaaaDoor
open Go.RowKit Go.Sort

/-- It answers v; what was there is as it was. -/
def Ans (v : Value) (w : World) (e : Ending) (w' : World) : Prop := e = .returned v ∧ Below w.heap.size w w'
theorem ret_bool {a b : Bool} (h : a = b) : Ending.returned (.bool a) = .returned (.bool b) := by rw [h]
theorem ret_int {k : IntKind} {a b : Int} (h : a = b) : Ending.returned (.int k a) = .returned (.int k b) := by rw [h]
theorem ret_val {a b : Value} (h : a = b) : Ending.returned a = .returned b := by rw [h]

theorem bcell {w w1 : World} (hb : Below w.heap.size w w1) : (∀ b o, b < w.heap.size → w1.cell? ⟨b, o, none⟩ = w.cell? ⟨b, o, none⟩) ∧ (∀ b o, b < w.heap.size → w1.frozen? ⟨b, o, none⟩ = w.frozen? ⟨b, o, none⟩) :=
  ⟨fun b o h => hb.cell (p := ⟨b, o, none⟩) h, fun b o h => hb.frozen (p := ⟨b, o, none⟩) h⟩
theorem bcell3 {w w1 : World} (hb : Below w.heap.size w w1) : (∀ b o, b < w.heap.size → w1.cell? ⟨b, o, none⟩ = w.cell? ⟨b, o, none⟩) ∧ (∀ b o, b < w.heap.size → w1.frozen? ⟨b, o, none⟩ = w.frozen? ⟨b, o, none⟩) ∧ ∀ b, b < w.heap.size → b < w1.heap.size :=
  ⟨(bcell hb).1, (bcell hb).2, fun _ h => Nat.lt_of_lt_of_le h hb.size⟩
theorem cell_alloc_lt (w : World) (o : Obj) (b off : Nat) (h : b < w.heap.size) : (w.alloc o).cell? ⟨b, off, none⟩ = w.cell? ⟨b, off, none⟩ := World.cell?_alloc_old w o ⟨b, off, none⟩ (Nat.ne_of_lt h)
theorem frozen_alloc_lt (w : World) (o : Obj) (b off : Nat) (h : b < w.heap.size) : (w.alloc o).frozen? ⟨b, off, none⟩ = w.frozen? ⟨b, off, none⟩ := World.frozen?_alloc_old w o ⟨b, off, none⟩ (Nat.ne_of_lt h)
theorem cell_set_ne (w : World) (a : Addr) (v : Value) (b off : Nat) (h : b ≠ a.block) : (w.setCell a v).cell? ⟨b, off, none⟩ = w.cell? ⟨b, off, none⟩ :=
  World.cell?_of_block (w := w) (Below.heap_setCell w a v b h)
theorem cell_set_lt (w : World) (c i : Nat) (v : Value) (b off : Nat) (h : b < c) : (w.setCell ⟨c, i, none⟩ v).cell? ⟨b, off, none⟩ = w.cell? ⟨b, off, none⟩ := cell_set_ne w _ v b off (Nat.ne_of_lt h)
theorem cell_set_gt (w : World) (c i : Nat) (v : Value) (b off : Nat) (h : c < b) : (w.setCell ⟨c, i, none⟩ v).cell? ⟨b, off, none⟩ = w.cell? ⟨b, off, none⟩ := cell_set_ne w _ v b off (Ne.symm (Nat.ne_of_lt h))
/-- A later world: what lay below B is as in w, B is not greater than w's size. -/
theorem below_step {B : Nat} {w w1 w2 : World} (h : Below B w w1) (hB : B ≤ w1.heap.size) (k : Below w1.heap.size w1 w2) : Below B w w2 :=
  h.trans (k.mono hB)

theorem bal {a w : World} (h : Below a.heap.size a w) (o : Obj) : Below a.heap.size a (w.alloc o) := h.alloc h.size o
theorem bdr {B : Nat} {a w : World} (h : Below B a w) : Below B a w.drew := h.drew
theorem bdrn {B : Nat} {a w : World} (h : Below B a w) (n : Nat) : Below B a (w.drewN n) := below_drewN h n
theorem bset {a w : World} (h : Below a.heap.size a w) {p : Addr} (hp : a.heap.size ≤ p.block) (u : Value) : Below a.heap.size a (w.setCell p u) := h.setCell hp u
theorem bstep {a w1 w2 : World} (h : Below a.heap.size a w1) (k : Below w1.heap.size w1 w2) : Below a.heap.size a w2 := below_step h h.size k

theorem grown_cell (w : World) (d : Nat) (os : Array Obj) (a : Addr) (h : a.block < w.heap.size) : (grow (redrawn w d) os).cell? a = w.cell? a :=
  (below_regrown w d os).cell h

theorem wp_region_qb {P : Program} {id : Nat} {Q : Exit → Act → World → Prop} {a : Act} {w : World} {l : List Oper} (hm : P.follows .mixedOrders = true) (hB : Region.lexB .any l.toArray = true)
    (h : wpQuiet P l.toArray (fun w' => ∃ p : Regrown, w' = grow (redrawn w p.d) p.os) (fun a' => ∀ w', Below w.heap.size w w' → Q .normal a' w') l a) : (Code.region id l.toArray true).wp P Q a w := by
  refine wp_region_quiet (C := fun w' => ∃ p : Regrown, w' = grow (redrawn w p.d) p.os) hm hB ⟨⟨w.drawn + 1, #[]⟩, by rw [grow_empty]; rfl⟩ ?_
  have key : ∀ (l' : List Oper) (a : Act), wpQuiet P l.toArray (fun w' => ∃ p : Regrown, w' = grow (redrawn w p.d) p.os) (fun a' => ∀ w', Below w.heap.size w w' → Q .normal a' w') l' a →
      wpQuiet P l.toArray (fun w' => ∃ p : Regrown, w' = grow (redrawn w p.d) p.os) (fun a' => ∀ w', (∃ p : Regrown, w' = grow (redrawn w p.d) p.os) → Q .normal a' w') l' a := by
    intro l' a h
    have e : (fun a' => ∀ w', (∃ p : Regrown, w' = grow (redrawn w p.d) p.os) → Q .normal a' w') = (fun a' => ∀ w', Below w.heap.size w w' → Q .normal a' w') := by
      funext a'
      apply propext
      constructor
      · intro h w' hb
        exact h w' (regrown_of_below hb)
      · rintro h w' ⟨p, rfl⟩
        exact h _ (below_regrown w p.d p.os)
    rw [e]
    exact h
  simpa using key l a h
/-- A callee's contract, met in such a region. -/
theorem ans_quiet {P : Program} {f : FuncId} {args : Array Value} {w : World} {d : Nat} {os : Array Obj} {v : Value}
    (h : Calls P f args (grow (redrawn w d) os) (Ans v (grow (redrawn w d) os))) : Calls P f args (grow (redrawn w d) os) fun e w'' => e = .returned v ∧ ∃ p : Regrown, w'' = grow (redrawn w p.d) p.os :=
  Calls.regrown_of h
end Go.Proofs.YtlohpplpnddfaaaDoor
