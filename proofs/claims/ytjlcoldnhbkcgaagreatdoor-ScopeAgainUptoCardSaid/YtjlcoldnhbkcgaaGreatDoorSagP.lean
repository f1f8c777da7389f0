/- Pruned is pruned: plain. -/
import Derived.Test.YtjlcoldnhbkcgaaGreatDoorPruP
namespace Go.Proofs.YtjlcoldnhbkcgaaGreatDoor
open Go.RowKit

theorem bulks_sub {p g : List Rr} (h : p.Sublist g) : Rr.bulks p ≤ Rr.bulks g := by
  induction h with
  | slnil => exact Nat.le_refl _
  | cons a _ ih => rw [Rr.bulks]; omega
  | cons_cons a _ ih => rw [Rr.bulks, Rr.bulks]; omega
theorem prG_range (p : List Rr) : prG p (List.range p.length) = p := by
  refine List.ext_getElem? (fun i => ?_)
  rcases Nat.lt_or_ge i p.length with h | h
  · have h1 : p[i]? = some p[i] := List.getElem?_eq_getElem h
    rw [h1]
    exact prG_get (by rw [List.getElem?_range h]) h1
  · rw [List.getElem?_eq_none h, List.getElem?_eq_none (by rw [prG_len, List.length_range]; exact h)]
/-- What pruning twice needs. -/
structure Pruned (g : List Rr) (us : List Nat) : Prop where
  ck : CkOk (prG g us)
  all : SetL (Rch (rowsG (prG g us)) 0) (List.range us.length)
  len : us.length ≤ g.length
  bulk : Rr.bulks (prG g us) ≤ Rr.bulks g
  pos : 0 < us.length
theorem pruned_of {g : List Rr} {us : List Nat} (hc : CkOk g) (h : SetL (Rch (rowsG g) 0) us) : Pruned g us := by
  obtain ⟨_, h0, _⟩ := okG_all hc.okg
  obtain ⟨hcl, hz⟩ := reach_cls h0 h
  have hp : 0 < us.length := (List.getElem?_eq_some_iff.1 hz).1
  have hs : (prG g us).Sublist g := prG_sub g us 0 hcl.rise (fun i hi => ⟨Nat.zero_le _, hcl.lt i hi⟩)
  exact ⟨ck_pr hc hcl hp, rch_all hc.2.1 h0 h, by have := hs.length_le; rwa [prG_len] at this, bulks_sub hs, hp⟩
end Go.Proofs.YtjlcoldnhbkcgaaGreatDoor
