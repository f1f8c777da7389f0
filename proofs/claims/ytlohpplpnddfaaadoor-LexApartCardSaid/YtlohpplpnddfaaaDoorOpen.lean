/- A class among the arguments of a row: it is some class. -/
import Derived.Test.YtlohpplpnddfaaaDoorRows
import Derived.Test.YtlohpplpnddfaaaDoorCls
import Derived.ProofKit
import Derived.OpenShut
import Derived.Lib.SmallJoins
namespace Go.Proofs.YtlohpplpnddfaaaDoor
open Go.ChangeShapes Go.WideShapes Go.RowKit Go.Joins
theorem own : ownKnob Tryd.prog.godebug = none := by kernel_rfl
theorem laidOut : laidOutB Tryd.prog = true := by kernel_rfl
theorem cells_word : Tryd.prog.cellsOf 22 = 1 := by kernel_rfl
set_option maxRecDepth 100000 in
theorem open_cls {H : Type} {enc : TypeId × Value → H} {w : World} {r : Reach} {b0 base : Nat} {spare : Nat → Bool} {held : Bool} {v : Value} {d : DataW H} {p : List MemPlace} (hv : Value.okWide Tryd.prog w r b0 24 v) (h : DataW.Trod enc Tryd.prog w base spare held 24 v d p) :
    ∃ c : BitVec 256, v = .agg #[.int .u64 (wd c 0), .int .u64 (wd c 1), .int .u64 (wd c 2), .int .u64 (wd c 3)] := by
  obtain ⟨cs, rfl, hsz⟩ : ∃ cs, v = .agg cs ∧ cs.size = 4 := by
    simp only [Value.okWide, Tryd.underlying24] at hv
    obtain ⟨cs, h1, h2, _⟩ := hv
    exact ⟨cs, h1, h2.trans (by kernel_rfl)⟩
  obtain ⟨c0, c1, c2, c3, rfl⟩ := array4 hsz
  obtain ⟨fuel, hf⟩ := h
  obtain ⟨xs, m, _, _, _, hl, hg⟩ := DataW.trod_array Tryd.underlying24 hf
  rw [cells_word] at hg
  have one : ∀ (i : Nat) (ci : Value), i < 4 → (((Value.agg #[c0, c1, c2, c3]).cells.toList.drop (i * 1)).take 1) = [ci] → ∃ n : Int, ci = .int .u64 n ∧ 0 ≤ n ∧ n < 18446744073709551616 := by
    intro i ci hi hc
    have h1 := hg i hi
    rw [hc] at h1
    obtain ⟨x, hx⟩ : ∃ x, xs[i]? = some x := ⟨xs[i]'(by omega), List.getElem?_eq_getElem (by omega)⟩
    rw [hx] at h1
    obtain ⟨n, e1, _, hw⟩ := DataW.trod_int Tryd.underlying22 h1
    injection e1 with e1 _
    refine ⟨n, e1, ?_⟩
    have := bounds_u64 hw
    omega
  obtain ⟨n0, rfl, a0, b0⟩ := one 0 c0 (by decide) rfl
  obtain ⟨n1, rfl, a1, b1⟩ := one 1 c1 (by decide) rfl
  obtain ⟨n2, rfl, a2, b2⟩ := one 2 c2 (by decide) rfl
  obtain ⟨n3, rfl, a3, b3⟩ := one 3 c3 (by decide) rfl
  obtain ⟨x, e0, e1, e2, e3⟩ := cl_of ⟨a0, b0⟩ ⟨a1, b1⟩ ⟨a2, b2⟩ ⟨a3, b3⟩
  exact ⟨x, by rw [e0, e1, e2, e3]⟩
end Go.Proofs.YtlohpplpnddfaaaDoor
