/- Bytes as a literal: plain facts. -/
import Derived.Test.YtlohpplpnddfaaaDoorSgnP
import Derived.Test.YtlohpplpnddfaaaDoorParP
namespace Go.Proofs.YtlohpplpnddfaaaDoor
open Go.RowKit

/-- A byte in a literal. -/
def qch (b : Nat) : List UInt8 :=
  if b = 10 then [92, 110] else if b = 13 then [92, 114] else if b = 9 then [92, 116] else if b = 39 then [92, 39] else if b = 92 then [92, 92]
  else if 32 ≤ b ∧ b ≤ 126 then [b.toUInt8] else [92, 120, hexd (b / 16), hexd (b % 16)]
/-- The first k bytes. -/
def quoTo (p : List UInt8) : Nat → List UInt8
  | 0 => [39]
  | k + 1 => quoTo p k ++ qch (byteAt p k)
/-- Bytes as a literal. -/
def quoted (p : List UInt8) : List UInt8 := quoTo p p.length ++ [39]
theorem qch_len (b : Nat) : 1 ≤ (qch b).length ∧ (qch b).length ≤ 4 := by
  unfold qch; repeat (first | split | simp)
theorem quoTo_len (p : List UInt8) : ∀ k, (quoTo p k).length ≤ 1 + 4 * k := by
  intro k
  induction k with
  | zero => simp [quoTo]
  | succ k ih => rw [quoTo, List.length_append]; have := qch_len (byteAt p k); omega
theorem qch_kinds (b : Nat) (_ : b < 256) : (b = 10 ∨ b = 13 ∨ b = 9 ∨ b = 39 ∨ b = 92) ∨ (b ≠ 10 ∧ b ≠ 13 ∧ b ≠ 9 ∧ b ≠ 39 ∧ b ≠ 92 ∧ 32 ≤ b ∧ b ≤ 126) ∨ (b ≠ 10 ∧ b ≠ 13 ∧ b ≠ 9 ∧ b ≠ 39 ∧ b ≠ 92 ∧ (b < 32 ∨ 126 < b)) := by omega
theorem qch_plain {b : Nat} (h : b ≠ 10 ∧ b ≠ 13 ∧ b ≠ 9 ∧ b ≠ 39 ∧ b ≠ 92 ∧ 32 ≤ b ∧ b ≤ 126) : qch b = [b.toUInt8] := by
  obtain ⟨h1, h2, h3, h4, h5, h6, h7⟩ := h
  unfold qch; rw [if_neg h1, if_neg h2, if_neg h3, if_neg h4, if_neg h5, if_pos ⟨h6, h7⟩]
theorem qch_hex {b : Nat} (h : b ≠ 10 ∧ b ≠ 13 ∧ b ≠ 9 ∧ b ≠ 39 ∧ b ≠ 92 ∧ (b < 32 ∨ 126 < b)) : qch b = [92, 120, hexd (b / 16), hexd (b % 16)] := by
  obtain ⟨h1, h2, h3, h4, h5, h6⟩ := h
  unfold qch; rw [if_neg h1, if_neg h2, if_neg h3, if_neg h4, if_neg h5, if_neg (by omega)]
theorem qmark_no' : ∀ b, b < 256 → (b == 10 || b == 13 || b == 9 || b == 39 || b == 92) = false → Lib.indexByte [10, 13, 9, 39, 92] b.toUInt8 = -1 := by decide +kernel
theorem qmark_no {b : Nat} (h : b < 256) (h1 : b ≠ 10) (h2 : b ≠ 13) (h3 : b ≠ 9) (h4 : b ≠ 39) (h5 : b ≠ 92) : Lib.indexByte [10, 13, 9, 39, 92] b.toUInt8 = -1 := qmark_no' b h (by simp [h1, h2, h3, h4, h5])
end Go.Proofs.YtlohpplpnddfaaaDoor
