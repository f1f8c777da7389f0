/- The size of a node of two parts. -/
import Derived.Test.YtjlcoldnhbkcgaaGreatDoorG44
namespace Go.Proofs.YtjlcoldnhbkcgaaGreatDoor
open Go.RowKit Go.Sort

theorem bulk_two {n m : Tr} {k : Int} : (Tr.mk k [] 0 [n, m] 0).bulk ≤ n.bulk + m.bulk + 100 := by
  simp [Tr.bulk, Tr.bulks]
  omega
end Go.Proofs.YtjlcoldnhbkcgaaGreatDoor
