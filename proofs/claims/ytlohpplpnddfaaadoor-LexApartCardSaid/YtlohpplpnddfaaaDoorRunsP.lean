/- The rows of a class: plain facts. -/
import Derived.Test.YtlohpplpnddfaaaDoorPop
namespace Go.Proofs.YtlohpplpnddfaaaDoor
open Go.RowKit

/-- The rows of a class from lo on. -/
def runsF (c : BitVec 256) : Nat → Nat → List (Nat × Nat)
  | 0, _ => []
  | f + 1, lo => if lo < 256 then (lo, nxt c false lo - 1) :: runsF c f (nxt c true (nxt c false lo)) else []
def runs (c : BitVec 256) : List (Nat × Nat) := runsF c 257 (nxt c true 0)
/-- Pairs as cells. -/
def pairs : List (Nat × Nat) → List Value
  | [] => []
  | p :: l => .int .i64 (p.1 : Int) :: .int .i64 (p.2 : Int) :: pairs l
theorem pairs_append (a b : List (Nat × Nat)) : pairs (a ++ b) = pairs a ++ pairs b := by
  induction a with
  | nil => rfl
  | cons p a ih => simp [pairs, ih]
theorem pairs_length (l : List (Nat × Nat)) : (pairs l).length = l.length * 2 := by
  induction l with
  | nil => rfl
  | cons p l ih => simp [pairs, ih]; omega
theorem pairs_get (l : List (Nat × Nat)) (i : Nat) (p : Nat × Nat) (h : l[i]? = some p) : (pairs l)[i * 2]? = some (.int .i64 (p.1 : Int)) ∧ (pairs l)[i * 2 + 1]? = some (.int .i64 (p.2 : Int)) := by
  induction l generalizing i with
  | nil => simp at h
  | cons q l ih =>
    cases i with
    | zero => simp at h; subst h; exact ⟨rfl, rfl⟩
    | succ i =>
      have := ih i (by simpa using h)
      rw [show (i + 1) * 2 = i * 2 + 1 + 1 by omega]
      simpa [pairs] using this
theorem nxt_gt {c : BitVec 256} {lo : Nat} (h : lo < 256) (hb : Has c lo = true) : lo < nxt c false lo := by
  rw [nxt_miss h (by rw [hb]; decide)]
  exact (nxt_spec c false (lo + 1) (by omega)).1
theorem nxt_le {c : BitVec 256} {b : Bool} {lo : Nat} (h : lo ≤ 256) : nxt c b lo ≤ 256 := (nxt_spec c b lo h).2.1
theorem nxt_ge {c : BitVec 256} {b : Bool} {lo : Nat} (h : lo ≤ 256) : lo ≤ nxt c b lo := (nxt_spec c b lo h).1
theorem nxt_has {c : BitVec 256} {b : Bool} {lo : Nat} (h : lo ≤ 256) (h2 : nxt c b lo < 256) : Has c (nxt c b lo) = b := (nxt_spec c b lo h).2.2.1 h2
theorem runs_step {c : BitVec 256} {f lo : Nat} (h : lo < 256) : runsF c (f + 1) lo = (lo, nxt c false lo - 1) :: runsF c f (nxt c true (nxt c false lo)) := by
  rw [runsF, if_pos h]
theorem runs_end (c : BitVec 256) (f : Nat) : runsF c f 256 = [] := by
  cases f <;> simp [runsF]
theorem runs_zero : runs 0#256 = [] := by
  have h : nxt 0#256 true 0 = 256 := by
    have s := nxt_spec 0#256 true 0 (by decide)
    apply Nat.le_antisymm s.2.1
    apply Nat.le_of_not_lt
    intro hlt
    have := s.2.2.1 hlt
    simp [Has] at this
  unfold runs
  rw [h, runs_end]
theorem runs_len (c : BitVec 256) : ∀ f lo, (runsF c f lo).length ≤ f := by
  intro f
  induction f with
  | zero => intro lo; exact Nat.le_refl _
  | succ f ih =>
    intro lo
    rw [runsF]
    split
    · simp only [List.length_cons]; have := ih (nxt c true (nxt c false lo)); omega
    · simp
end Go.Proofs.YtlohpplpnddfaaaDoor
