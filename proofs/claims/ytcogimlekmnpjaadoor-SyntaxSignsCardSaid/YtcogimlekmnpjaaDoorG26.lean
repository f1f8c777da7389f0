/- A class among the arguments of a row: it is some class. | What the door's rows have in common: the variable's cell out of 'laid', a world that meets it (after the guide's worked text ToyasProofs). -/
import Derived.Test.YtcogimlekmnpjaaDoorRows
import Derived.Test.YtcogimlekmnpjaaDoorG0
import Derived.ProofKit
import Derived.OpenShut
import Derived.Lib.SmallJoins
import Derived.Test.YtcogimlekmnpjaaDoorG12
import Derived.ChangeSame
import Derived.ChangeVars
import Derived.JoinedOf
import Derived.RowKit
import Derived.RowKitTokens
import Derived.LaidLaws
import Derived.LaidHandle
import Derived.Stop.Joined
namespace Go.Proofs.YtcogimlekmnpjaaDoor
open Go.ChangeShapes Go.WideShapes Go.RowKit Go.Joins
theorem own : ownKnob Tryd.prog.godebug = none := by kernel_rfl
theorem laidOut : laidOutB Tryd.prog = true := by kernel_rfl
theorem cells_word : Tryd.prog.cellsOf 31 = 1 := by kernel_rfl
set_option maxRecDepth 100000 in
theorem open_cls {H : Type} {enc : TypeId × Value → H} {w : World} {r : Reach} {b0 base : Nat} {spare : Nat → Bool} {held : Bool} {v : Value} {d : DataW H} {p : List MemPlace} (hv : Value.okWide Tryd.prog w r b0 33 v) (h : DataW.Trod enc Tryd.prog w base spare held 33 v d p) :
    ∃ c : BitVec 256, v = .agg #[.int .u64 (wd c 0), .int .u64 (wd c 1), .int .u64 (wd c 2), .int .u64 (wd c 3)] := by
  obtain ⟨cs, rfl, hsz⟩ : ∃ cs, v = .agg cs ∧ cs.size = 4 := by
    simp only [Value.okWide, Tryd.underlying33] at hv
    obtain ⟨cs, h1, h2, _⟩ := hv
    exact ⟨cs, h1, h2.trans (by kernel_rfl)⟩
  obtain ⟨c0, c1, c2, c3, rfl⟩ := array4 hsz
  obtain ⟨fuel, hf⟩ := h
  obtain ⟨xs, m, _, _, _, hl, hg⟩ := DataW.trod_array Tryd.underlying33 hf
  rw [cells_word] at hg
  have one : ∀ (i : Nat) (ci : Value), i < 4 → (((Value.agg #[c0, c1, c2, c3]).cells.toList.drop (i * 1)).take 1) = [ci] → ∃ n : Int, ci = .int .u64 n ∧ 0 ≤ n ∧ n < 18446744073709551616 := by
    intro i ci hi hc
    have h1 := hg i hi
    rw [hc] at h1
    obtain ⟨x, hx⟩ : ∃ x, xs[i]? = some x := ⟨xs[i]'(by omega), List.getElem?_eq_getElem (by omega)⟩
    rw [hx] at h1
    obtain ⟨n, e1, _, hw⟩ := DataW.trod_int Tryd.underlying31 h1
    injection e1 with e1 _
    refine ⟨n, e1, ?_⟩
    have := bounds_u64 hw
    omega
  obtain ⟨n0, rfl, a0, b0⟩ := one 0 c0 (by decide) rfl
  obtain ⟨n1, rfl, a1, b1⟩ := one 1 c1 (by decide) rfl
  obtain ⟨n2, rfl, a2, b2⟩ := one 2 c2 (by decide) rfl
  obtain ⟨n3, rfl, a3, b3⟩ := one 3 c3 (by decide) rfl
  obtain ⟨x, e0, e1, e2, e3⟩ := cl_of ⟨a0, b0⟩ ⟨a1, b1⟩ ⟨a2, b2⟩ ⟨a3, b3⟩
  exact ⟨x, by rw [e0, e1, e2, e3]⟩
end Go.Proofs.YtcogimlekmnpjaaDoor
namespace Go.Proofs.YtcogimlekmnpjaaDoor
open Go.ChangeShapes Go.WideShapes Go.RowKit
def laidL : List (String × DataW Unit) := [("errors.errorType", Rows.laid_errors_errorType)]
theorem door_et : Tryd.prog.globalNamed "errors.errorType" = some 1 := by kernel_rfl
theorem door_rt : (Tryd.prog.cutTypes.find? (·.1 == "internal/reflectlite.rtype")).map (·.2) = some 113 := by kernel_rfl
theorem door_row : ((List.range 152).filter fun t => Tryd.prog.rowNamed t [101, 114, 114, 111, 114]) = [27] := by kernel_rfl
theorem door_size : Tryd.prog.types.size = 152 := by kernel_rfl
theorem handle_of_laid {W : World} (h : laidMetH Tryd.prog laidL W) : Laid W := by
  have h' : laidMet Tryd.prog [] W ∧ handlesMet Tryd.prog laidL W := h
  obtain ⟨name, u, ty, e1, e2, e3, e4, e5⟩ := h'.2 _ (List.mem_singleton.2 rfl)
  have en : name = [101, 114, 114, 111, 114] := (Option.some.inj e1).symm
  subst en
  obtain rfl := Option.some.inj (door_rt.symm.trans e2)
  have hm : ty ∈ (List.range 152).filter fun t => Tryd.prog.rowNamed t [101, 114, 114, 111, 114] := List.mem_filter.2 ⟨List.mem_range.2 (by rw [← door_size]; exact e3), e4⟩
  rw [door_row] at hm
  obtain rfl := List.mem_singleton.1 hm
  have hh : typeHandle Tryd.prog 27 = .pointer (some ⟨2, 27, none⟩) := by kernel_rfl
  rw [hh] at e5
  unfold Laid
  simpa using World.var?_cell door_et e5 0
noncomputable def laidWorld (os : Os) : World :=
  let w0 := World.holding Tryd.prog os ⟨#[], #[], []⟩
  { w0 with heap := w0.heap.modify 1 fun
      | .cells _ t frozen => .cells #[.iface 113 (.agg #[.pointer (some ⟨2, 27, none⟩)])] t frozen
      | o => o }
theorem laidWorld_met (os : Os) (args : Array Value) : laidMetH Tryd.prog laidL ((laidWorld os).forCall (fun _ _ => 0) ⟨#[], args, []⟩).memory :=
  laidMetH_of_parts (laidMet_nil _ _) (by kernel_rfl)
end Go.Proofs.YtcogimlekmnpjaaDoor
