/- A class's text: plain facts. -/
import Derived.Test.YtlohpplpnddfaaaDoorRunsP
import Derived.Test.YtlohpplpnddfaaaDoorSgnP
namespace Go.Proofs.YtlohpplpnddfaaaDoor
open Go.RowKit

/-- A row's text. -/
def rowT (p : Nat × Nat) : List UInt8 := sgn p.1 ++ ((if p.1 + 1 < p.2 then [45] else []) ++ (if p.1 < p.2 then sgn p.2 else []))
/-- The text of the first k rows. -/
def txK (l : List (Nat × Nat)) : Nat → List UInt8
  | 0 => [91]
  | k + 1 => txK l k ++ rowT (l[k]?.getD (0, 0))
/-- A class's text. -/
def txt (c : BitVec 256) : List UInt8 := txK (runs c) (runs c).length ++ [93]
theorem sgn_len (b : Nat) : 1 ≤ (sgn b).length ∧ (sgn b).length ≤ 4 := by
  unfold sgn; repeat (first | split | simp)
theorem rowT_len (p : Nat × Nat) : (rowT p).length ≤ 9 := by
  have h1 := sgn_len p.1
  have h2 := sgn_len p.2
  unfold rowT
  simp only [List.length_append]
  split <;> split <;> simp <;> omega
theorem txK_len (l : List (Nat × Nat)) : ∀ k, (txK l k).length ≤ 1 + 9 * k := by
  intro k
  induction k with
  | zero => simp [txK]
  | succ k ih =>
    rw [txK, List.length_append]
    have := rowT_len (l[k]?.getD (0, 0))
    omega
theorem txK_succ {l : List (Nat × Nat)} {k : Nat} {p : Nat × Nat} (h : l[k]? = some p) : txK l (k + 1) = txK l k ++ rowT p := by
  rw [txK, h]; rfl
theorem ba_app (a b : List UInt8) : (⟨a.toArray⟩ : ByteArray) ++ ⟨b.toArray⟩ = ⟨(a ++ b).toArray⟩ := by
  apply ByteArray.ext
  simp [ByteArray.data_append]
theorem tx_a (A : List UInt8) (p : Nat × Nat) (h : p.2 = p.1) : (⟨A.toArray⟩ : ByteArray) ++ ⟨(sgn p.1).toArray⟩ = ⟨(A ++ rowT p).toArray⟩ := by
  rw [ba_app, rowT, if_neg (by omega), if_neg (by omega)]
  simp
theorem tx_b (A : List UInt8) (p : Nat × Nat) (h : p.2 = p.1 + 1) : (⟨A.toArray⟩ : ByteArray) ++ ⟨(sgn p.1).toArray⟩ ++ ⟨(sgn p.2).toArray⟩ = ⟨(A ++ rowT p).toArray⟩ := by
  rw [ba_app, ba_app, rowT, if_neg (by omega), if_pos (by omega)]
  simp
theorem tx_c (A : List UInt8) (p : Nat × Nat) (h : p.1 + 1 < p.2) : (⟨A.toArray⟩ : ByteArray) ++ ⟨(sgn p.1).toArray⟩ ++ ⟨#[45]⟩ ++ ⟨(sgn p.2).toArray⟩ = ⟨(A ++ rowT p).toArray⟩ := by
  rw [show (⟨#[45]⟩ : ByteArray) = ⟨[45].toArray⟩ from rfl, ba_app, ba_app, ba_app, rowT, if_pos h, if_pos (by omega)]
  simp
end Go.Proofs.YtlohpplpnddfaaaDoor
