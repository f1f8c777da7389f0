/- api.Code and api.At, at what the program's errors are. -/
import Derived.Test.YtcogimlekmnpjaaDoorG12
namespace Go.Proofs.YtcogimlekmnpjaaDoor
open Go.RowKit Go.Sort

theorem below_gr {a w w' : World} {tb : Nat} (h : Below a.heap.size a w) (hg : w.grownBy w' (some tb)) (hr : a.heap.size ≤ tb) : Below a.heap.size a w' := h.grown hg h.size (fun k hk => by injection hk with hk; omega)
theorem gr_below {w w2 w' : World} {row : Option Nat} (h : Below w.heap.size w w2) (hg : w2.grownBy w' row) : w.grownBy w' row :=
  ⟨hg.os.trans h.os, hg.tape.trans h.tape, hg.output.trans h.output, Nat.le_trans h.size hg.size, fun k hk hr => (hg.block k (Nat.lt_of_lt_of_le hk h.size) hr).trans (h.block k hk)⟩

theorem as_FF (p : Nat) (tb : Nat) (old : Value) (w : World) (hg : Laid w) (ht0 : w.cell? ⟨tb, 0, none⟩ = some old) (hf0 : w.frozen? ⟨tb, 0, none⟩ = false) :
    Calls Tryd.prog 39 #[.iface 44 (.pointer (some ⟨p, 0, none⟩)), .iface 84 (.pointer (some ⟨tb, 0, none⟩))] w fun ev w' => ∃ b, ev = .returned (.bool b) ∧ b = true ∧ w.grownBy w' (some tb) ∧ w'.cell? ⟨tb, 0, none⟩ = some (.pointer (some ⟨p, 0, none⟩)) := by
  have hlt := World.block_lt_of_cell? w _ ht0
  refine as_Q _ _ tb old w (fun b w' => b = true ∧ w.grownBy w' (some tb) ∧ w'.cell? ⟨tb, 0, none⟩ = some (.pointer (some ⟨p, 0, none⟩))) hg ht0 fun w2 vb hb hv => ?_
  refine (as2_FF p tb vb old w2 ((hb.cell hlt).trans ht0) ((hb.frozen (p := ⟨tb, 0, none⟩) hlt).trans hf0) hv).mono ?_
  rintro e w' ⟨b, rfl, hb1, hb2, hb3⟩
  exact ⟨b, rfl, hb1, gr_below hb hb2, hb3⟩
theorem as_EF (n : Int) (tb : Nat) (old : Value) (w : World) (hg : Laid w) (ht0 : w.cell? ⟨tb, 0, none⟩ = some old) (hf0 : w.frozen? ⟨tb, 0, none⟩ = false) :
    Calls Tryd.prog 39 #[.iface 51 (.int .i64 n), .iface 84 (.pointer (some ⟨tb, 0, none⟩))] w fun ev w' => ∃ b, ev = .returned (.bool b) ∧ b = false ∧ Below w.heap.size w w' := by
  have hlt := World.block_lt_of_cell? w _ ht0
  refine as_Q _ _ tb old w (fun b w' => b = false ∧ Below w.heap.size w w') hg ht0 fun w2 vb hb hv => ?_
  refine (as2_EF n tb vb old w2 ((hb.cell hlt).trans ht0) ((hb.frozen (p := ⟨tb, 0, none⟩) hlt).trans hf0) hv).mono ?_
  rintro e w' ⟨b, rfl, hb1, hb2⟩
  exact ⟨b, rfl, hb1, bstep hb hb2⟩

end Go.Proofs.YtcogimlekmnpjaaDoor
