/- api.Code and api.At, at what the program's errors are. -/
import Derived.Test.YtjlcoldnhbkcgaaGreatDoorG13
namespace Go.Proofs.YtjlcoldnhbkcgaaGreatDoor
open Go.RowKit Go.Sort

theorem below_gr {a w w' : World} {tb : Nat} (h : Below a.heap.size a w) (hg : w.grownBy w' (some tb)) (hr : a.heap.size ≤ tb) : Below a.heap.size a w' := h.grown hg h.size (fun k hk => by injection hk with hk; omega)
theorem gr_below {w w2 w' : World} {row : Option Nat} (h : Below w.heap.size w w2) (hg : w2.grownBy w' row) : w.grownBy w' row :=
  ⟨hg.os.trans h.os, hg.tape.trans h.tape, hg.output.trans h.output, Nat.le_trans h.size hg.size, fun k hk hr => (hg.block k (Nat.lt_of_lt_of_le hk h.size) hr).trans (h.block k hk)⟩

/-- errors.As at *Errno: an Errno. -/
theorem as_E (n : Int) (tb : Nat) (old : Value) (w : World) (hg : Laid w) (ht0 : w.cell? ⟨tb, 0, none⟩ = some old) (hf0 : w.frozen? ⟨tb, 0, none⟩ = false) :
    Calls Tryz.prog 50 #[.iface 66 (.int .i64 n), .iface 105 (.pointer (some ⟨tb, 0, none⟩))] w fun ev w' => ∃ b, ev = .returned (.bool b) ∧ b = true ∧ w.grownBy w' (some tb) ∧ w'.cell? ⟨tb, 0, none⟩ = some (.int .i64 n) := by
  have hlt := World.block_lt_of_cell? w _ ht0
  refine as_P _ _ tb old w (fun b w' => b = true ∧ w.grownBy w' (some tb) ∧ w'.cell? ⟨tb, 0, none⟩ = some (.int .i64 n)) hg ht0 fun w2 vb hb hv => ?_
  refine (as2_EE n tb vb old w2 ((hb.cell hlt).trans ht0) ((hb.frozen (p := ⟨tb, 0, none⟩) hlt).trans hf0) hv).mono ?_
  rintro e w' ⟨b, rfl, hb1, hb2, hb3⟩
  exact ⟨b, rfl, hb1, gr_below hb hb2, hb3⟩
theorem as_FE (p : Nat) (n : Int) (tb : Nat) (old : Value) (w : World) (hg : Laid w) (hp : w.cell? ⟨p, 0, none⟩ = some (.int .i64 n)) (ht0 : w.cell? ⟨tb, 0, none⟩ = some old) (hf0 : w.frozen? ⟨tb, 0, none⟩ = false) :
    Calls Tryz.prog 50 #[.iface 79 (.pointer (some ⟨p, 0, none⟩)), .iface 105 (.pointer (some ⟨tb, 0, none⟩))] w fun ev w' => ∃ b, ev = .returned (.bool b) ∧ b = true ∧ w.grownBy w' (some tb) ∧ w'.cell? ⟨tb, 0, none⟩ = some (.int .i64 n) := by
  have hlt := World.block_lt_of_cell? w _ ht0
  have hpl := World.block_lt_of_cell? w _ hp
  refine as_P _ _ tb old w (fun b w' => b = true ∧ w.grownBy w' (some tb) ∧ w'.cell? ⟨tb, 0, none⟩ = some (.int .i64 n)) hg ht0 fun w2 vb hb hv => ?_
  refine (as2_FE p n tb vb old w2 ((hb.cell hpl).trans hp) ((hb.cell hlt).trans ht0) ((hb.frozen (p := ⟨tb, 0, none⟩) hlt).trans hf0) hv).mono ?_
  rintro e w' ⟨b, rfl, hb1, hb2, hb3⟩
  exact ⟨b, rfl, hb1, gr_below hb hb2, hb3⟩
theorem as_FF (p : Nat) (tb : Nat) (old : Value) (w : World) (hg : Laid w) (ht0 : w.cell? ⟨tb, 0, none⟩ = some old) (hf0 : w.frozen? ⟨tb, 0, none⟩ = false) :
    Calls Tryz.prog 50 #[.iface 79 (.pointer (some ⟨p, 0, none⟩)), .iface 106 (.pointer (some ⟨tb, 0, none⟩))] w fun ev w' => ∃ b, ev = .returned (.bool b) ∧ b = true ∧ w.grownBy w' (some tb) ∧ w'.cell? ⟨tb, 0, none⟩ = some (.pointer (some ⟨p, 0, none⟩)) := by
  have hlt := World.block_lt_of_cell? w _ ht0
  refine as_Q _ _ tb old w (fun b w' => b = true ∧ w.grownBy w' (some tb) ∧ w'.cell? ⟨tb, 0, none⟩ = some (.pointer (some ⟨p, 0, none⟩))) hg ht0 fun w2 vb hb hv => ?_
  refine (as2_FF p tb vb old w2 ((hb.cell hlt).trans ht0) ((hb.frozen (p := ⟨tb, 0, none⟩) hlt).trans hf0) hv).mono ?_
  rintro e w' ⟨b, rfl, hb1, hb2, hb3⟩
  exact ⟨b, rfl, hb1, gr_below hb hb2, hb3⟩
theorem as_EF (n : Int) (tb : Nat) (old : Value) (w : World) (hg : Laid w) (ht0 : w.cell? ⟨tb, 0, none⟩ = some old) (hf0 : w.frozen? ⟨tb, 0, none⟩ = false) :
    Calls Tryz.prog 50 #[.iface 66 (.int .i64 n), .iface 106 (.pointer (some ⟨tb, 0, none⟩))] w fun ev w' => ∃ b, ev = .returned (.bool b) ∧ b = false ∧ Below w.heap.size w w' := by
  have hlt := World.block_lt_of_cell? w _ ht0
  refine as_Q _ _ tb old w (fun b w' => b = false ∧ Below w.heap.size w w') hg ht0 fun w2 vb hb hv => ?_
  refine (as2_EF n tb vb old w2 ((hb.cell hlt).trans ht0) ((hb.frozen (p := ⟨tb, 0, none⟩) hlt).trans hf0) hv).mono ?_
  rintro e w' ⟨b, rfl, hb1, hb2⟩
  exact ⟨b, rfl, hb1, bstep hb hb2⟩

theorem code_nil (w : World) : Calls Tryz.prog 27 #[.nilIface] w (Ans (.int .i64 0) w) := by
  go_enter Tryz.func27, Tryz.ntmps27
  repeat (first | go_values | go_skip | go_guarded | go_step | go_upon)
  go_ret
  exact ⟨rfl, (by repeat (first | exact Below.refl _ _ | assumption | refine bal ?_ _ | refine bdr ?_ | refine bdrn ?_ _ | (refine bset ?_ (by first | exact Nat.le_refl _ | (simp; done) | (simp; omega) | omega) _) | refine bstep ?_ (by assumption)))⟩
set_option maxHeartbeats 800000 in
theorem code_E (n : Int) (w : World) (hg : Laid w) : Calls Tryz.prog 27 #[.iface 66 (.int .i64 n)] w (Ans (.int .i64 n) w) := by
  have hA := as_E n w.heap.size (.int .i64 0) (w.alloc (.cells #[.int .i64 0] 66)) (hg.below ((Below.refl _ _).alloc (Nat.le_refl _) _) hg.pos) (by simp) (by simp)
  have HA := Lib.hid hA
  clear hA hg
  go_enter Tryz.func27, Tryz.ntmps27
  repeat (first | go_values | go_skip | go_guarded | go_step | go_upon)
  refine HA.out.mono ?_
  rintro e w2 ⟨b, rfl, rfl, hgr, hc⟩
  have hb : Below w.heap.size w w2 := below_gr (bal (Below.refl _ _) _) hgr (Nat.le_refl _)
  clear hgr HA
  dsimp only
  repeat (first | go_values | go_skip | go_guarded | go_step | go_upon)
  go_ret
  exact ⟨rfl, hb⟩
set_option maxHeartbeats 800000 in
theorem code_F (p : Nat) (n : Int) (w : World) (hg : Laid w) (hp : w.cell? ⟨p, 0, none⟩ = some (.int .i64 n)) : Calls Tryz.prog 27 #[.iface 79 (.pointer (some ⟨p, 0, none⟩))] w (Ans (.int .i64 n) w) := by
  have hpl := World.block_lt_of_cell? w _ hp
  have hA := as_FE p n w.heap.size (.int .i64 0) (w.alloc (.cells #[.int .i64 0] 66)) (hg.below ((Below.refl _ _).alloc (Nat.le_refl _) _) hg.pos) (by rw [World.cell?_alloc_past _ _ _ hpl]; exact hp) (by simp) (by simp)
  have HA := Lib.hid hA
  clear hA hg
  go_enter Tryz.func27, Tryz.ntmps27
  repeat (first | go_values | go_skip | go_guarded | go_step | go_upon)
  refine HA.out.mono ?_
  rintro e w2 ⟨b, rfl, rfl, hgr, hc⟩
  have hb : Below w.heap.size w w2 := below_gr (bal (Below.refl _ _) _) hgr (Nat.le_refl _)
  clear hgr HA
  dsimp only
  repeat (first | go_values | go_skip | go_guarded | go_step | go_upon)
  go_ret
  exact ⟨rfl, hb⟩
set_option maxHeartbeats 800000 in
theorem at_F (p : Nat) (n : Int) (w : World) (hg : Laid w) (hp : w.cell? ⟨p, 1, none⟩ = some (.int .i64 n)) : Calls Tryz.prog 28 #[.iface 79 (.pointer (some ⟨p, 0, none⟩))] w (Ans (.int .i64 n) w) := by
  have hpl : p < w.heap.size := World.block_lt_of_cell? w _ hp
  have hA := as_FF p w.heap.size (.pointer none) (w.alloc (.cells #[.pointer none] 79)) (hg.below ((Below.refl _ _).alloc (Nat.le_refl _) _) hg.pos) (by simp) (by simp)
  have HA := Lib.hid hA
  clear hA hg
  go_enter Tryz.func28, Tryz.ntmps28
  repeat (first | go_values | go_skip | go_guarded | go_step | go_upon)
  refine HA.out.mono ?_
  rintro e w2 ⟨b, rfl, rfl, hgr, hc⟩
  have hb : Below w.heap.size w w2 := below_gr (bal (Below.refl _ _) _) hgr (Nat.le_refl _)
  have hp2 : w2.cell? ⟨p, 1, none⟩ = some (.int .i64 n) := (hb.cell hpl).trans hp
  clear hgr HA
  dsimp only
  repeat (first | go_values | go_skip | go_guarded | go_step | go_upon)
  go_ret
  exact ⟨rfl, hb⟩
set_option maxHeartbeats 800000 in
theorem at_E (n : Int) (w : World) (hg : Laid w) : Calls Tryz.prog 28 #[.iface 66 (.int .i64 n)] w (Ans (.int .i64 (-1)) w) := by
  have hA := as_EF n w.heap.size (.pointer none) (w.alloc (.cells #[.pointer none] 79)) (hg.below ((Below.refl _ _).alloc (Nat.le_refl _) _) hg.pos) (by simp) (by simp)
  have HA := Lib.hid hA
  clear hA hg
  go_enter Tryz.func28, Tryz.ntmps28
  repeat (first | go_values | go_skip | go_guarded | go_step | go_upon)
  refine HA.out.mono ?_
  rintro e w2 ⟨b, rfl, rfl, hb2⟩
  have hb : Below w.heap.size w w2 := bstep (bal (Below.refl _ _) _) hb2
  clear HA
  dsimp only
  repeat (first | go_values | go_skip | go_guarded | go_step | go_upon)
  go_ret
  exact ⟨rfl, hb⟩
end Go.Proofs.YtjlcoldnhbkcgaaGreatDoor
