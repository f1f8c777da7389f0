/- A slice of the call's own: nil, or a block. -/
import Derived.Test.YtlohpplpnddfaaaDoorRunsW
namespace Go.Proofs.YtlohpplpnddfaaaDoor
open Go.RowKit Go.Sort

theorem owns_form2 {w : World} {base : Nat} {e : TypeId} {size : Nat} {v : Value} {n : Nat} {xs : List Value} (h : w.ownsRow base e size v n xs) : (n = 0 ∧ v = .slice none 0 0) ∨ (∃ g cap, v = .slice (some ⟨g, 0, none⟩) n cap) := by
  rcases owns_form h with h | ⟨cap, h⟩
  · exact .inl h
  · exact .inr ⟨_, cap, h⟩
end Go.Proofs.YtlohpplpnddfaaaDoor
