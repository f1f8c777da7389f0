/- The walk of NullableRows. -/
import Derived.Test.YtjlcoldnhbkcgaaGreatDoorNrwA
import Derived.Test.YtjlcoldnhbkcgaaGreatDoorNrwB
namespace Go.Proofs.YtjlcoldnhbkcgaaGreatDoor
open Go.RowKit Go.Sort

theorem xpr_one (g : List Rr) (n : Tr) : ∃ a : Ot, ∀ o, XpR g n o .nilIface → o = a := by
  by_cases h : ∃ T, Least g T
  · obtain ⟨T, hT⟩ := h
    exact ⟨exT T n, fun o ho => ho.det hT⟩
  · refine ⟨ot0, fun o ho => ?_⟩
    rcases ho.forms with ⟨_, hT⟩ | ⟨_, _, e⟩
    · exact absurd hT h
    · cases e
theorem nrows_any {g : List Rr} {v : Value} {n m : Tr} {cs ds : List Value} {P P2 P3 : Nat → Prop} (w : World) (hg : Laid w) (hr : RepGr w P g v) (hP : ∀ b, P b → b < w.heap.size) (hb : Rr.bulks g ≤ 1048576) (hn : RepA w P2 n cs) (hP2 : ∀ b, P2 b → b < w.heap.size) (hbn : n.bulk ≤ 1048576) (hm : RepA w P3 m ds) (hP3 : ∀ b, P3 b → b < w.heap.size) (hbm : m.bulk ≤ 1048576) : Calls Tryz.prog 4 #[.agg #[v], .agg cs.toArray, .agg ds.toArray] w (Ans (.bool true) w) := by
  obtain ⟨⟨a1, a2, a3⟩, ha⟩ := xpr_one g n
  cases a1 <;> cases a2
  · exact nrows_00 w hg hr hP hb hn hP2 hbn hm hP3 hbm a3 ha
  · exact nrows_01 w hg hr hP hb hn hP2 hbn hm hP3 hbm a3 ha
  · exact nrows_10 w hg hr hP hb hn hP2 hbn hm hP3 hbm a3 ha
  · exact nrows_11 w hg hr hP hb hn hP2 hbn hm hP3 hbm a3 ha
end Go.Proofs.YtjlcoldnhbkcgaaGreatDoor
