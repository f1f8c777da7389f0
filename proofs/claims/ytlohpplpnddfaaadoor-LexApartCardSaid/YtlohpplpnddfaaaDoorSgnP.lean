/- A byte's sign: plain facts. -/
import Derived.Test.YtlohpplpnddfaaaDoorBase
import Derived.Lib.IndexLaws
namespace Go.Proofs.YtlohpplpnddfaaaDoor
open Go.RowKit

/-- The five bytes with a meaning. -/
def fiveB (b : Nat) : Bool := b == 91 || b == 93 || b == 92 || b == 45 || b == 94
/-- A digit of base sixteen. -/
def hexd (n : Nat) : UInt8 := if n < 10 then (48 + n).toUInt8 else (87 + n).toUInt8
/-- A byte's sign. -/
def sgn (b : Nat) : List UInt8 :=
  if b = 10 then [92, 110] else if b = 13 then [92, 114] else if b = 9 then [92, 116]
  else if fiveB b then [92, b.toUInt8] else if 32 ≤ b ∧ b ≤ 126 then [b.toUInt8] else [92, 120, hexd (b / 16), hexd (b % 16)]
theorem stand_no : ∀ b, b < 256 → b ≠ 10 → b ≠ 13 → b ≠ 9 → Lib.indexByte [10, 13, 9] b.toUInt8 = -1 := by decide +kernel
theorem marked_no : ∀ b, b < 256 → fiveB b = false → Lib.indexByte [91, 93, 92, 45, 94] b.toUInt8 = -1 := by decide +kernel
theorem hexd_at : ∀ n, n < 16 → (⟨#[48, 49, 50, 51, 52, 53, 54, 55, 56, 57, 97, 98, 99, 100, 101, 102]⟩ : ByteArray).extract n (n + 1) = ⟨#[hexd n]⟩ := by decide +kernel
/-- The bytes are of five kinds. -/
theorem sgn_kinds (b : Nat) (_ : b < 256) : (b = 10 ∨ b = 13 ∨ b = 9) ∨ fiveB b = true ∨ (fiveB b = false ∧ b ≠ 10 ∧ b ≠ 13 ∧ b ≠ 9 ∧ 32 ≤ b ∧ b ≤ 126) ∨ (fiveB b = false ∧ b ≠ 10 ∧ b ≠ 13 ∧ b ≠ 9 ∧ (b < 32 ∨ 126 < b)) := by
  cases fiveB b <;> simp <;> omega
theorem five_list {b : Nat} (h : fiveB b = true) : b = 91 ∨ b = 93 ∨ b = 92 ∨ b = 45 ∨ b = 94 := by
  simpa [fiveB, or_assoc] using h
theorem sgn_plain {b : Nat} (h : fiveB b = false) (h1 : b ≠ 10) (h2 : b ≠ 13) (h3 : b ≠ 9) (h4 : 32 ≤ b) (h5 : b ≤ 126) : sgn b = [b.toUInt8] := by
  unfold sgn; rw [if_neg h1, if_neg h2, if_neg h3, h, if_neg (by decide), if_pos ⟨h4, h5⟩]
theorem sgn_hex {b : Nat} (h : fiveB b = false) (h1 : b ≠ 10) (h2 : b ≠ 13) (h3 : b ≠ 9) (h4 : b < 32 ∨ 126 < b) : sgn b = [92, 120, hexd (b / 16), hexd (b % 16)] := by
  unfold sgn; rw [if_neg h1, if_neg h2, if_neg h3, h, if_neg (by decide), if_neg (by omega)]
end Go.Proofs.YtlohpplpnddfaaaDoor
