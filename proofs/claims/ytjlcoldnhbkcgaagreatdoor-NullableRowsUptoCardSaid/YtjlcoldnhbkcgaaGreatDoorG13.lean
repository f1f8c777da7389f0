/- errors.As, api.Code, api.At: walked. -/
import Derived.Test.YtjlcoldnhbkcgaaGreatDoorG12
namespace Go.Proofs.YtjlcoldnhbkcgaaGreatDoor
open Go.RowKit Go.Sort Go.Extern.Stop Go.Stop Go.Extern

/-- What errors.errorType holds. -/
def Laid (w : World) : Prop := w.cell? ⟨0, 0, none⟩ = some (.iface 160 (.agg #[.pointer (some ⟨2, 28, none⟩)]))
theorem Laid.pos {w : World} (h : Laid w) : 0 < w.heap.size := World.block_lt_of_cell? w _ h
theorem Laid.two {w : World} (h : Laid w) (o o' : Obj) : ((w.alloc o).alloc o').cell? ⟨0, 0, none⟩ = some (.iface 160 (.agg #[.pointer (some ⟨2, 28, none⟩)])) :=
  ((Below.refl w.heap.size w).alloc (Nat.le_refl _) o |>.trans ((Below.refl (w.alloc o).heap.size (w.alloc o)).alloc (Nat.le_refl _) o' |>.mono (by simp)) |>.cell h.pos).trans h
theorem Laid.below {w w' : World} {B : Nat} (h : Laid w) (hb : Below B w w') (hB : 0 < B) : Laid w' := (hb.cell hB).trans h

set_option maxRecDepth 100000 in
set_option maxHeartbeats 4000000 in
theorem as_P (T : TypeId) (v : Value) (tb : Nat) (old : Value) (w : World) (R : Bool → World → Prop) (hg : Laid w) (_ : w.cell? ⟨tb, 0, none⟩ = some old)
    (H : ∀ w2 vb, Below w.heap.size w w2 → w2.cell? ⟨vb, 0, none⟩ = some (.pointer (some ⟨tb, 0, none⟩)) → Calls Tryz.prog 76 #[.iface T v, .iface 105 (.pointer (some ⟨tb, 0, none⟩)), .agg #[.pointer (some ⟨2, 105, none⟩), .pointer (some ⟨vb, 0, none⟩), .int .u64 150], .iface 160 (.agg #[.pointer (some ⟨2, 66, none⟩)])] w2 fun ev w' => ∃ b, ev = .returned (.bool b) ∧ R b w') :
    Calls Tryz.prog 50 #[.iface T v, .iface 105 (.pointer (some ⟨tb, 0, none⟩))] w fun ev w' => ∃ b, ev = .returned (.bool b) ∧ R b w' := by
  have h75 := @run_callFunc_extern Tryz.prog 73 _ (fun args => ReflectliteValue.unpack (args.getD 0 (.tuple #[]))) Tryz.func73 (by kernel_rfl) (by kernel_rfl) (by kernel_rfl) (by kernel_rfl)
  have hKd := @run_callFunc_extern Tryz.prog 157 _ (ReflectliteType.abiMethod fun t => do pure (.int .u8 (← Rtype.kind t))) Tryz.func157 (by kernel_rfl) (by kernel_rfl) (by kernel_rfl) (by kernel_rfl)
  have h76 := @run_callFunc_extern Tryz.prog 74 _ (ReflectliteValue.methodAny (ReflectliteValue.valueError "reflectlite.Value.Type" 0) (fun t _ _ _ => ReflectliteType.toType t)) Tryz.func74 (by kernel_rfl) (by kernel_rfl) (by kernel_rfl) (by kernel_rfl)
  have h77 := @run_callFunc_extern Tryz.prog 75 _ (ReflectliteValue.method (ReflectliteValue.valueError "reflectlite.Value.IsNil" 0) ReflectliteValue.isNil) Tryz.func75 (by kernel_rfl) (by kernel_rfl) (by kernel_rfl) (by kernel_rfl)
  have hEl := @run_callFunc_extern Tryz.prog 170 _ (ReflectliteType.method ReflectliteType.elem) Tryz.func170 (by kernel_rfl) (by kernel_rfl) (by kernel_rfl) (by kernel_rfl)
  have hIm := @run_callFunc_extern Tryz.prog 171 _ (ReflectliteType.relation "Implements" ReflectliteType.implements_) Tryz.func171 (by kernel_rfl) (by kernel_rfl) (by kernel_rfl) (by kernel_rfl)
  have f1 := valueOfP
  have f2 := typeP
  have f3 := methodKind
  have f4 := methodElem
  have f5 := methodImplements
  have f7 := kindP
  have f8 := kindE
  have f9 := elemP
  have g1 := implementsE
  have hlt := hg.pos
  have hgc : w.cell? ⟨0, 0, none⟩ = some (.iface 160 (.agg #[.pointer (some ⟨2, 28, none⟩)])) := hg
  have hgc2 := hg.two
  have n8 := isNilP ⟨w.heap.size, 0, none⟩ ⟨tb, 0, none⟩
  have HH := Lib.hid H
  clear H
  go_enter Tryz.func50, Tryz.ntmps50
  repeat (first | go_values | go_skip | go_guarded | go_step | go_upon)
  refine (HH.out _ _ (by repeat (first | exact Below.refl _ _ | assumption | refine bal ?_ _ | refine bdr ?_ | refine bdrn ?_ _ | (refine bset ?_ (by first | exact Nat.le_refl _ | (simp; done) | (simp; omega) | omega) _) | refine bstep ?_ (by assumption))) (by simp)).mono ?_
  rintro e w2 ⟨b, rfl, hR⟩
  have HR := Lib.hid hR
  clear hR
  dsimp only
  repeat (first | go_values | go_skip | go_guarded | go_step | go_upon)
  go_ret
  exact ⟨_, rfl, HR.out⟩

set_option maxRecDepth 100000 in
set_option maxHeartbeats 4000000 in
theorem as_Q (T : TypeId) (v : Value) (tb : Nat) (old : Value) (w : World) (R : Bool → World → Prop) (hg : Laid w) (_ : w.cell? ⟨tb, 0, none⟩ = some old)
    (H : ∀ w2 vb, Below w.heap.size w w2 → w2.cell? ⟨vb, 0, none⟩ = some (.pointer (some ⟨tb, 0, none⟩)) → Calls Tryz.prog 76 #[.iface T v, .iface 106 (.pointer (some ⟨tb, 0, none⟩)), .agg #[.pointer (some ⟨2, 106, none⟩), .pointer (some ⟨vb, 0, none⟩), .int .u64 150], .iface 160 (.agg #[.pointer (some ⟨2, 79, none⟩)])] w2 fun ev w' => ∃ b, ev = .returned (.bool b) ∧ R b w') :
    Calls Tryz.prog 50 #[.iface T v, .iface 106 (.pointer (some ⟨tb, 0, none⟩))] w fun ev w' => ∃ b, ev = .returned (.bool b) ∧ R b w' := by
  have h75 := @run_callFunc_extern Tryz.prog 73 _ (fun args => ReflectliteValue.unpack (args.getD 0 (.tuple #[]))) Tryz.func73 (by kernel_rfl) (by kernel_rfl) (by kernel_rfl) (by kernel_rfl)
  have hKd := @run_callFunc_extern Tryz.prog 157 _ (ReflectliteType.abiMethod fun t => do pure (.int .u8 (← Rtype.kind t))) Tryz.func157 (by kernel_rfl) (by kernel_rfl) (by kernel_rfl) (by kernel_rfl)
  have h76 := @run_callFunc_extern Tryz.prog 74 _ (ReflectliteValue.methodAny (ReflectliteValue.valueError "reflectlite.Value.Type" 0) (fun t _ _ _ => ReflectliteType.toType t)) Tryz.func74 (by kernel_rfl) (by kernel_rfl) (by kernel_rfl) (by kernel_rfl)
  have h77 := @run_callFunc_extern Tryz.prog 75 _ (ReflectliteValue.method (ReflectliteValue.valueError "reflectlite.Value.IsNil" 0) ReflectliteValue.isNil) Tryz.func75 (by kernel_rfl) (by kernel_rfl) (by kernel_rfl) (by kernel_rfl)
  have hEl := @run_callFunc_extern Tryz.prog 170 _ (ReflectliteType.method ReflectliteType.elem) Tryz.func170 (by kernel_rfl) (by kernel_rfl) (by kernel_rfl) (by kernel_rfl)
  have hIm := @run_callFunc_extern Tryz.prog 171 _ (ReflectliteType.relation "Implements" ReflectliteType.implements_) Tryz.func171 (by kernel_rfl) (by kernel_rfl) (by kernel_rfl) (by kernel_rfl)
  have f1 := valueOfQ
  have f2 := typeQ
  have f3 := methodKind
  have f4 := methodElem
  have f5 := methodImplements
  have f7 := kindQ
  have f8 := kindF
  have f9 := elemQ
  have g1 := implementsF
  have hlt := hg.pos
  have hgc : w.cell? ⟨0, 0, none⟩ = some (.iface 160 (.agg #[.pointer (some ⟨2, 28, none⟩)])) := hg
  have hgc2 := hg.two
  have n8 := isNilQ ⟨w.heap.size, 0, none⟩ ⟨tb, 0, none⟩
  have HH := Lib.hid H
  clear H
  go_enter Tryz.func50, Tryz.ntmps50
  repeat (first | go_values | go_skip | go_guarded | go_step | go_upon)
  refine (HH.out _ _ (by repeat (first | exact Below.refl _ _ | assumption | refine bal ?_ _ | refine bdr ?_ | refine bdrn ?_ _ | (refine bset ?_ (by first | exact Nat.le_refl _ | (simp; done) | (simp; omega) | omega) _) | refine bstep ?_ (by assumption))) (by simp)).mono ?_
  rintro e w2 ⟨b, rfl, hR⟩
  have HR := Lib.hid hR
  clear hR
  dsimp only
  repeat (first | go_values | go_skip | go_guarded | go_step | go_upon)
  go_ret
  exact ⟨_, rfl, HR.out⟩

theorem gset (w : World) (tb : Nat) (v : Value) : w.grownBy (w.setCell ⟨tb, 0, none⟩ v) (some tb) := ⟨rfl, rfl, rfl, by simp, fun k _ hk => heap_setCell_other w ⟨tb, 0, none⟩ k v (fun e => hk (by simp [e]))⟩
theorem galloc {w w1 : World} {row : Option Nat} (h : w.grownBy w1 row) (o : Obj) : w.grownBy (w1.alloc o) row :=
  ⟨h.os, h.tape, h.output, Nat.le_trans h.size (by simp), fun k hk hr => (RowKit.Below.heap_alloc w1 o k (Nat.lt_of_lt_of_le hk h.size)).trans (h.block k hk hr)⟩
set_option maxHeartbeats 400000 in
theorem unwrap_any (p : Nat) (n : Int) (w : World) (h : w.cell? ⟨p, 0, none⟩ = some (.int .i64 n)) : Calls Tryz.prog 162 #[.pointer (some ⟨p, 0, none⟩)] w fun e w' => e = .returned (.iface 66 (.int .i64 n)) ∧ w = w' := by
  go_enter Tryz.func162, Tryz.ntmps162
  repeat (first | go_values | go_skip | go_guarded | go_step | go_upon)
  go_ret
  exact ⟨rfl, rfl⟩

set_option maxRecDepth 100000 in
set_option maxHeartbeats 4000000 in
theorem as2_EE (n : Int) (tb vb : Nat) (old : Value) (w : World) (ht0 : w.cell? ⟨tb, 0, none⟩ = some old) (hf0 : w.frozen? ⟨tb, 0, none⟩ = false) (hv : w.cell? ⟨vb, 0, none⟩ = some (.pointer (some ⟨tb, 0, none⟩))) :
    Calls Tryz.prog 76 #[.iface 66 (.int .i64 n), .iface 105 (.pointer (some ⟨tb, 0, none⟩)), .agg #[.pointer (some ⟨2, 105, none⟩), .pointer (some ⟨vb, 0, none⟩), .int .u64 150], .iface 160 (.agg #[.pointer (some ⟨2, 66, none⟩)])] w fun ev w' => ∃ b, ev = .returned (.bool b) ∧ b = true ∧ w.grownBy w' (some tb) ∧ w'.cell? ⟨tb, 0, none⟩ = some (.int .i64 n) := by
  have h75 := @run_callFunc_extern Tryz.prog 73 _ (fun args => ReflectliteValue.unpack (args.getD 0 (.tuple #[]))) Tryz.func73 (by kernel_rfl) (by kernel_rfl) (by kernel_rfl) (by kernel_rfl)
  have hKd := @run_callFunc_extern Tryz.prog 157 _ (ReflectliteType.abiMethod fun t => do pure (.int .u8 (← Rtype.kind t))) Tryz.func157 (by kernel_rfl) (by kernel_rfl) (by kernel_rfl) (by kernel_rfl)
  have hTO := @run_callFunc_extern Tryz.prog 95 _ ReflectliteType.typeOf Tryz.func95 (by kernel_rfl) (by kernel_rfl) (by kernel_rfl) (by kernel_rfl)
  have hAT := @run_callFunc_extern Tryz.prog 168 _ (ReflectliteType.relation "AssignableTo" ReflectliteType.assignableTo) Tryz.func168 (by kernel_rfl) (by kernel_rfl) (by kernel_rfl) (by kernel_rfl)
  have hVE := @run_callFunc_extern Tryz.prog 96 _ (ReflectliteValue.method (ReflectliteValue.valueError "reflectlite.Value.Elem" 0) ReflectliteValue.elem) Tryz.func96 (by kernel_rfl) (by kernel_rfl) (by kernel_rfl) (by kernel_rfl)
  have hVS := @run_callFunc_extern Tryz.prog 97 _ ReflectliteValue.set Tryz.func97 (by kernel_rfl) (by kernel_rfl) (by kernel_rfl) (by kernel_rfl)
  have htl : tb < w.heap.size := World.block_lt_of_cell? w _ ht0
  have hvl : vb < w.heap.size := World.block_lt_of_cell? w _ hv
  have f6 := methodAssignableTo
  have g2 := typeOfE
  have g3 := assignableEE
  have g4 := valueOfE
  have el := elemVP ⟨vb, 0, none⟩ ⟨tb, 0, none⟩
  have st := setE ⟨tb, 0, none⟩ ⟨w.heap.size + 1, 0, none⟩ n old ((w.alloc (.cells #[.pointer (some ⟨2, 105, none⟩), .pointer (some ⟨vb, 0, none⟩), .int .u64 150] 134)).alloc (.cells #[.int .i64 n] 66)) (by go_simp) (by go_simp) (by go_simp)
  go_enter Tryz.func76, Tryz.ntmps76
  repeat (first | go_values | go_skip | go_guarded | go_step | go_upon)
  refine wp_loop_rounds 1 ?_
  rw [rounds_succ]
  repeat (first | go_values | go_skip | go_guarded | go_step | go_upon)
  go_ret
  exact ⟨_, rfl, rfl, galloc (galloc (gset _ _ _) _) _, by go_simp⟩

set_option maxRecDepth 100000 in
set_option maxHeartbeats 4000000 in
theorem as2_FF (p : Nat) (tb vb : Nat) (old : Value) (w : World) (ht0 : w.cell? ⟨tb, 0, none⟩ = some old) (hf0 : w.frozen? ⟨tb, 0, none⟩ = false) (hv : w.cell? ⟨vb, 0, none⟩ = some (.pointer (some ⟨tb, 0, none⟩))) :
    Calls Tryz.prog 76 #[.iface 79 (.pointer (some ⟨p, 0, none⟩)), .iface 106 (.pointer (some ⟨tb, 0, none⟩)), .agg #[.pointer (some ⟨2, 106, none⟩), .pointer (some ⟨vb, 0, none⟩), .int .u64 150], .iface 160 (.agg #[.pointer (some ⟨2, 79, none⟩)])] w fun ev w' => ∃ b, ev = .returned (.bool b) ∧ b = true ∧ w.grownBy w' (some tb) ∧ w'.cell? ⟨tb, 0, none⟩ = some (.pointer (some ⟨p, 0, none⟩)) := by
  have h75 := @run_callFunc_extern Tryz.prog 73 _ (fun args => ReflectliteValue.unpack (args.getD 0 (.tuple #[]))) Tryz.func73 (by kernel_rfl) (by kernel_rfl) (by kernel_rfl) (by kernel_rfl)
  have hKd := @run_callFunc_extern Tryz.prog 157 _ (ReflectliteType.abiMethod fun t => do pure (.int .u8 (← Rtype.kind t))) Tryz.func157 (by kernel_rfl) (by kernel_rfl) (by kernel_rfl) (by kernel_rfl)
  have hTO := @run_callFunc_extern Tryz.prog 95 _ ReflectliteType.typeOf Tryz.func95 (by kernel_rfl) (by kernel_rfl) (by kernel_rfl) (by kernel_rfl)
  have hAT := @run_callFunc_extern Tryz.prog 168 _ (ReflectliteType.relation "AssignableTo" ReflectliteType.assignableTo) Tryz.func168 (by kernel_rfl) (by kernel_rfl) (by kernel_rfl) (by kernel_rfl)
  have hVE := @run_callFunc_extern Tryz.prog 96 _ (ReflectliteValue.method (ReflectliteValue.valueError "reflectlite.Value.Elem" 0) ReflectliteValue.elem) Tryz.func96 (by kernel_rfl) (by kernel_rfl) (by kernel_rfl) (by kernel_rfl)
  have hVS := @run_callFunc_extern Tryz.prog 97 _ ReflectliteValue.set Tryz.func97 (by kernel_rfl) (by kernel_rfl) (by kernel_rfl) (by kernel_rfl)
  have htl : tb < w.heap.size := World.block_lt_of_cell? w _ ht0
  have hvl : vb < w.heap.size := World.block_lt_of_cell? w _ hv
  have f6 := methodAssignableTo
  have g2 := typeOfF
  have g3 := assignableFF
  have g4 := valueOfF
  have el := elemVQ ⟨vb, 0, none⟩ ⟨tb, 0, none⟩
  have st := setF ⟨tb, 0, none⟩ ⟨w.heap.size + 1, 0, none⟩ ⟨p, 0, none⟩ old ((w.alloc (.cells #[.pointer (some ⟨2, 106, none⟩), .pointer (some ⟨vb, 0, none⟩), .int .u64 150] 134)).alloc (.cells #[.pointer (some ⟨p, 0, none⟩)] 79)) (by go_simp) (by go_simp) (by go_simp)
  go_enter Tryz.func76, Tryz.ntmps76
  repeat (first | go_values | go_skip | go_guarded | go_step | go_upon)
  refine wp_loop_rounds 1 ?_
  rw [rounds_succ]
  repeat (first | go_values | go_skip | go_guarded | go_step | go_upon)
  go_ret
  exact ⟨_, rfl, rfl, galloc (galloc (gset _ _ _) _) _, by go_simp⟩

set_option maxRecDepth 100000 in
set_option maxHeartbeats 4000000 in
theorem as2_FE (p : Nat) (n : Int) (tb vb : Nat) (old : Value) (w : World) (hp : w.cell? ⟨p, 0, none⟩ = some (.int .i64 n)) (ht0 : w.cell? ⟨tb, 0, none⟩ = some old) (hf0 : w.frozen? ⟨tb, 0, none⟩ = false) (hv : w.cell? ⟨vb, 0, none⟩ = some (.pointer (some ⟨tb, 0, none⟩))) :
    Calls Tryz.prog 76 #[.iface 79 (.pointer (some ⟨p, 0, none⟩)), .iface 105 (.pointer (some ⟨tb, 0, none⟩)), .agg #[.pointer (some ⟨2, 105, none⟩), .pointer (some ⟨vb, 0, none⟩), .int .u64 150], .iface 160 (.agg #[.pointer (some ⟨2, 66, none⟩)])] w fun ev w' => ∃ b, ev = .returned (.bool b) ∧ b = true ∧ w.grownBy w' (some tb) ∧ w'.cell? ⟨tb, 0, none⟩ = some (.int .i64 n) := by
  have h75 := @run_callFunc_extern Tryz.prog 73 _ (fun args => ReflectliteValue.unpack (args.getD 0 (.tuple #[]))) Tryz.func73 (by kernel_rfl) (by kernel_rfl) (by kernel_rfl) (by kernel_rfl)
  have hKd := @run_callFunc_extern Tryz.prog 157 _ (ReflectliteType.abiMethod fun t => do pure (.int .u8 (← Rtype.kind t))) Tryz.func157 (by kernel_rfl) (by kernel_rfl) (by kernel_rfl) (by kernel_rfl)
  have hTO := @run_callFunc_extern Tryz.prog 95 _ ReflectliteType.typeOf Tryz.func95 (by kernel_rfl) (by kernel_rfl) (by kernel_rfl) (by kernel_rfl)
  have hAT := @run_callFunc_extern Tryz.prog 168 _ (ReflectliteType.relation "AssignableTo" ReflectliteType.assignableTo) Tryz.func168 (by kernel_rfl) (by kernel_rfl) (by kernel_rfl) (by kernel_rfl)
  have hVE := @run_callFunc_extern Tryz.prog 96 _ (ReflectliteValue.method (ReflectliteValue.valueError "reflectlite.Value.Elem" 0) ReflectliteValue.elem) Tryz.func96 (by kernel_rfl) (by kernel_rfl) (by kernel_rfl) (by kernel_rfl)
  have hVS := @run_callFunc_extern Tryz.prog 97 _ ReflectliteValue.set Tryz.func97 (by kernel_rfl) (by kernel_rfl) (by kernel_rfl) (by kernel_rfl)
  have htl : tb < w.heap.size := World.block_lt_of_cell? w _ ht0
  have hvl : vb < w.heap.size := World.block_lt_of_cell? w _ hv
  have f6 := methodAssignableTo
  have g2 := typeOfE
  have g3 := assignableEE
  have g4 := valueOfE
  have el := elemVP ⟨vb, 0, none⟩ ⟨tb, 0, none⟩
  have st := setE ⟨tb, 0, none⟩ ⟨w.heap.size + 1, 0, none⟩ n old ((w.alloc (.cells #[.pointer (some ⟨2, 105, none⟩), .pointer (some ⟨vb, 0, none⟩), .int .u64 150] 134)).alloc (.cells #[.int .i64 n] 66)) (by go_simp) (by go_simp) (by go_simp)
  have k2 := typeOfF
  have k3 := assignableFE
  have k4 := noAsF
  have k5 := isUnF
  have k6 := methodUnwrap
  have hpl : p < w.heap.size := World.block_lt_of_cell? w _ hp
  go_enter Tryz.func76, Tryz.ntmps76
  repeat (first | go_values | go_skip | go_guarded | go_step | go_upon)
  refine wp_loop_rounds 2 ?_
  rw [rounds_succ]
  repeat (first | go_values | go_skip | go_guarded | go_step | go_upon)
  refine (unwrap_any p n _ (by go_simp)).mono ?_
  rintro e w2 ⟨rfl, rfl⟩
  dsimp only
  repeat (first | go_values | go_skip | go_guarded | go_step | go_upon)
  rw [rounds_succ]
  repeat (first | go_values | go_skip | go_guarded | go_step | go_upon)
  go_ret
  exact ⟨_, rfl, rfl, galloc (galloc (gset _ _ _) _) _, by go_simp⟩

set_option maxRecDepth 100000 in
set_option maxHeartbeats 4000000 in
theorem as2_EF (n : Int) (tb vb : Nat) (old : Value) (w : World) (ht0 : w.cell? ⟨tb, 0, none⟩ = some old) (_ : w.frozen? ⟨tb, 0, none⟩ = false) (hv : w.cell? ⟨vb, 0, none⟩ = some (.pointer (some ⟨tb, 0, none⟩))) :
    Calls Tryz.prog 76 #[.iface 66 (.int .i64 n), .iface 106 (.pointer (some ⟨tb, 0, none⟩)), .agg #[.pointer (some ⟨2, 106, none⟩), .pointer (some ⟨vb, 0, none⟩), .int .u64 150], .iface 160 (.agg #[.pointer (some ⟨2, 79, none⟩)])] w fun ev w' => ∃ b, ev = .returned (.bool b) ∧ b = false ∧ Below w.heap.size w w' := by
  have h75 := @run_callFunc_extern Tryz.prog 73 _ (fun args => ReflectliteValue.unpack (args.getD 0 (.tuple #[]))) Tryz.func73 (by kernel_rfl) (by kernel_rfl) (by kernel_rfl) (by kernel_rfl)
  have hKd := @run_callFunc_extern Tryz.prog 157 _ (ReflectliteType.abiMethod fun t => do pure (.int .u8 (← Rtype.kind t))) Tryz.func157 (by kernel_rfl) (by kernel_rfl) (by kernel_rfl) (by kernel_rfl)
  have hTO := @run_callFunc_extern Tryz.prog 95 _ ReflectliteType.typeOf Tryz.func95 (by kernel_rfl) (by kernel_rfl) (by kernel_rfl) (by kernel_rfl)
  have hAT := @run_callFunc_extern Tryz.prog 168 _ (ReflectliteType.relation "AssignableTo" ReflectliteType.assignableTo) Tryz.func168 (by kernel_rfl) (by kernel_rfl) (by kernel_rfl) (by kernel_rfl)
  have hVE := @run_callFunc_extern Tryz.prog 96 _ (ReflectliteValue.method (ReflectliteValue.valueError "reflectlite.Value.Elem" 0) ReflectliteValue.elem) Tryz.func96 (by kernel_rfl) (by kernel_rfl) (by kernel_rfl) (by kernel_rfl)
  have hVS := @run_callFunc_extern Tryz.prog 97 _ ReflectliteValue.set Tryz.func97 (by kernel_rfl) (by kernel_rfl) (by kernel_rfl) (by kernel_rfl)
  have htl : tb < w.heap.size := World.block_lt_of_cell? w _ ht0
  have hvl : vb < w.heap.size := World.block_lt_of_cell? w _ hv
  have f6 := methodAssignableTo
  have g2 := typeOfE
  have g3 := assignableEF
  have k4 := noAsE
  have k5 := noUnE
  have k6 := noUUE
  go_enter Tryz.func76, Tryz.ntmps76
  repeat (first | go_values | go_skip | go_guarded | go_step | go_upon)
  refine wp_loop_rounds 1 ?_
  rw [rounds_succ]
  repeat (first | go_values | go_skip | go_guarded | go_step | go_upon)
  go_ret
  exact ⟨_, rfl, rfl, (by repeat (first | exact Below.refl _ _ | assumption | refine bal ?_ _ | refine bdr ?_ | refine bdrn ?_ _ | (refine bset ?_ (by first | exact Nat.le_refl _ | (simp; done) | (simp; omega) | omega) _) | refine bstep ?_ (by assumption)))⟩
end Go.Proofs.YtjlcoldnhbkcgaaGreatDoor
