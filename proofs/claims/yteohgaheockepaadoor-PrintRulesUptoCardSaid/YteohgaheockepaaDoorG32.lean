/- How large a tree is; whether it may be printed: plain. -/
import Derived.Test.YteohgaheockepaaDoorG1
import Derived.Test.YteohgaheockepaaDoorG15
namespace Go.Proofs.YteohgaheockepaaDoor
open Go.RowKit

mutual
/-- How large a tree is: its nodes and its letters. -/
def Tr.bulk : Tr → Nat
  | .mk _ t _ l _ => t.length + 1 + Tr.bulks l
def Tr.bulks : List Tr → Nat
  | [] => 0
  | n :: l => n.bulk + Tr.bulks l
end
theorem Tr.bulks_snoc (l : List Tr) (n : Tr) : Tr.bulks (l ++ [n]) = Tr.bulks l + n.bulk := by
  induction l with
  | nil => simp [Tr.bulks]
  | cons m l ih => simp only [List.cons_append, Tr.bulks, ih]; omega
/-- A node alone. -/
def okH (k : Int) (t : List UInt8) (c : BitVec 256) (n : Nat) : Bool :=
  (k == 3 || c == 0) && (if k = 5 then isName t && n == 0 else if k = 2 then decide (t.length ≤ 255) && n == 0 else if k = 1 ∨ k = 4 ∨ k = 3 then t.isEmpty && n == 0 else if k = 6 ∨ k = 7 then t.isEmpty && decide (1 < n) else if k = 8 ∨ k = 9 ∨ k = 10 ∨ k = 11 ∨ k = 12 then t.isEmpty && n == 1 else false)
mutual
def okT : Tr → Bool
  | .mk k t c l _ => okH k t c l.length && okL l
def okL : List Tr → Bool
  | [] => true
  | n :: l => okT n && okL l
end
theorem okL_all {l : List Tr} : okL l = true ↔ ∀ n ∈ l, okT n = true := by
  induction l with
  | nil => simp [okL]
  | cons n l ih => simp [okL, ih]
end Go.Proofs.YteohgaheockepaaDoor
