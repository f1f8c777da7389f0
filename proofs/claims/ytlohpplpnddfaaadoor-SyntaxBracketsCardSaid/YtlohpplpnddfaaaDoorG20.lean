/- The walk of one: where none comes; parentheses. | The contract of one. | A row's variable: the parts read so far; one part more. | What part keeps between its steps. | The walk of part. -/
import Derived.Test.YtlohpplpnddfaaaDoorG19
import Derived.Deep.RegionHeld3
import Derived.Deep.CutBlock
namespace Go.Proofs.YtlohpplpnddfaaaDoor
open Go.RowKit Go.Sort

set_option maxRecDepth 100000 in
set_option maxHeartbeats 3200000 in
theorem one_arrow {R g o c d : Nat} {t u : Tok} {l : List Tok} {w : World} (h : SR R g o c d (t :: u :: l) w) (hE : EndsT (t :: u :: l)) (hk : t.kind = 1) (hu : u.kind = 2) :
    Calls Tryd.prog 114 #[.pointer (some ⟨R, 0, none⟩)] w (fun e w' => OneP R g d (t :: u :: l).length w e w' (.ok none (t :: u :: l))) := by
  obtain ⟨c0, c1, fz⟩ := h.cells
  obtain ⟨a0, a1, a2, a3, a4, a5, a6⟩ := h.head
  have HH := Lib.hid h
  have qR := h.ltR
  have qg := h.lt
  have qR1 : R < w.heap.size + 1 := by omega
  have qg1 : g < w.heap.size + 1 := by omega
  have qR2 : R < w.heap.size + 1 + 1 := by omega
  have HE := Lib.hid hE
  have hm1 := cell_alloc_lt
  have hm2 := frozen_alloc_lt
  have hm5 := cell_a3
  have hm6 := frozen_a3
  clear h hE
  dsimp only [List.length] at c0
  have a7 := HH.out.toks 7 (.int .i64 (u.kind : Int)) rfl
  rw [hu] at a7
  rw [hk] at a0
  go_enter Tryd.func114, Tryd.ntmps114
  repeat (first | go_values | go_skip | go_guarded | go_step | go_upon)
  refine bodyPost_ret (v := .tuple #[zeroNd, .bool false]) (by simp [zeroNd, results, Tryd.results114, go_sem, hm1, cell_a2, cell_a3, frozen_a2, frozen_a3]) rfl ?_
  refine ⟨rfl, ⟨o, c, ?_⟩, ?_, HE.out, Nat.le_refl _⟩
  · repeat (with_reducible refine SR.set ?_ (by omega) (by omega) _ _)
    exact ((HH.out.alloc _).alloc _).alloc _
  · repeat (with_reducible refine gby_set ?_ (Nat.le_refl _) _ _)
    exact below_gby _ (bal (bal (bal (Below.refl _ _) _) _) _)
set_option maxRecDepth 100000 in
set_option maxHeartbeats 3200000 in
theorem one_nsign {R g o c d : Nat} {t : Tok} {rs : List Tok} {w : World} (h : SR R g o c d (t :: rs) w) (hE : EndsT (t :: rs)) (hk : t.kind = 5) (h46 : t.text ≠ [46]) (h40 : t.text ≠ [40]) :
    Calls Tryd.prog 114 #[.pointer (some ⟨R, 0, none⟩)] w (fun e w' => OneP R g d (t :: rs).length w e w' (.ok none (t :: rs))) := by
  obtain ⟨c0, c1, fz⟩ := h.cells
  obtain ⟨a0, a1, a2, a3, a4, a5, a6⟩ := h.head
  have HH := Lib.hid h
  have qR := h.ltR
  have qg := h.lt
  have qR1 : R < w.heap.size + 1 := by omega
  have qg1 : g < w.heap.size + 1 := by omega
  have qR2 : R < w.heap.size + 1 + 1 := by omega
  have HE := Lib.hid hE
  have hm1 := cell_alloc_lt
  have hm2 := frozen_alloc_lt
  have hm5 := cell_a3
  have hm6 := frozen_a3
  clear h hE
  dsimp only [List.length] at c0
  have s1 : ((mkS t.text).toList == [46]) = false := by rw [Go.ByteArray.toList_eq]; simpa [mkS] using h46
  have s2 : ((mkS t.text).toList == [40]) = false := by rw [Go.ByteArray.toList_eq]; simpa [mkS] using h40
  clear h46 h40
  rw [hk] at a0
  go_enter Tryd.func114, Tryd.ntmps114
  repeat (first | go_values | go_skip | go_guarded | go_step | go_upon)
  refine bodyPost_ret (v := .tuple #[zeroNd, .bool false]) (by simp [zeroNd, results, Tryd.results114, go_sem, hm1, cell_a2, cell_a3, frozen_a2, frozen_a3]) rfl ?_
  refine ⟨rfl, ⟨o, c, ?_⟩, ?_, HE.out, Nat.le_refl _⟩
  · repeat (with_reducible refine SR.set ?_ (by omega) (by omega) _ _)
    exact ((HH.out.alloc _).alloc _).alloc _
  · repeat (with_reducible refine gby_set ?_ (Nat.le_refl _) _ _)
    exact below_gby _ (bal (bal (bal (Below.refl _ _) _) _) _)
set_option maxRecDepth 100000 in
set_option maxHeartbeats 3200000 in
theorem one_other {R g o c d : Nat} {t : Tok} {rs : List Tok} {w : World} (h : SR R g o c d (t :: rs) w) (hE : EndsT (t :: rs)) (h1 : t.kind ≠ 1) (h3 : t.kind ≠ 3) (h4 : t.kind ≠ 4) (h5 : t.kind ≠ 5) :
    Calls Tryd.prog 114 #[.pointer (some ⟨R, 0, none⟩)] w (fun e w' => OneP R g d (t :: rs).length w e w' (.ok none (t :: rs))) := by
  obtain ⟨c0, c1, fz⟩ := h.cells
  obtain ⟨a0, a1, a2, a3, a4, a5, a6⟩ := h.head
  have HH := Lib.hid h
  have qR := h.ltR
  have qg := h.lt
  have qR1 : R < w.heap.size + 1 := by omega
  have qg1 : g < w.heap.size + 1 := by omega
  have qR2 : R < w.heap.size + 1 + 1 := by omega
  have HE := Lib.hid hE
  have hm1 := cell_alloc_lt
  have hm2 := frozen_alloc_lt
  have hm5 := cell_a3
  have hm6 := frozen_a3
  clear h hE
  dsimp only [List.length] at c0
  have m1 : ((t.kind : Int) == 1) = false := by simp; omega
  have m3 : ((t.kind : Int) == 3) = false := by simp; omega
  have m4 : ((t.kind : Int) == 4) = false := by simp; omega
  have m5 : ((t.kind : Int) == 5) = false := by simp; omega
  clear h1 h3 h4 h5
  go_enter Tryd.func114, Tryd.ntmps114
  repeat (first | go_values | go_skip | go_guarded | go_step | go_upon)
  refine bodyPost_ret (v := .tuple #[zeroNd, .bool false]) (by simp [zeroNd, results, Tryd.results114, go_sem, hm1, cell_a2, cell_a3, frozen_a2, frozen_a3]) rfl ?_
  refine ⟨rfl, ⟨o, c, ?_⟩, ?_, HE.out, Nat.le_refl _⟩
  · repeat (with_reducible refine SR.set ?_ (by omega) (by omega) _ _)
    exact ((HH.out.alloc _).alloc _).alloc _
  · repeat (with_reducible refine gby_set ?_ (Nat.le_refl _) _ _)
    exact below_gby _ (bal (bal (bal (Below.refl _ _) _) _) _)
/-- Blocks from one number up to another. -/
def Blk (lo hi b : Nat) : Prop := lo ≤ b ∧ b < hi
theorem Blk.lo {lo hi b : Nat} (h : Blk lo hi b) : lo ≤ b := h.1
theorem Blk.hi {lo hi b : Nat} (h : Blk lo hi b) : b < hi := h.2
theorem Fresh.blk {w w' : World} {lo : Nat} (h : lo = w.heap.size) {b : Nat} (hb : Fresh w w' b) : Blk lo w'.heap.size b := ⟨h ▸ hb.1, hb.2⟩
theorem Blk.fresh {w w' : World} {lo hi : Nat} (h1 : w.heap.size ≤ lo) (h2 : hi ≤ w'.heap.size) {b : Nat} (hb : Blk lo hi b) : Fresh w w' b := ⟨Nat.le_trans h1 hb.1, Nat.lt_of_lt_of_le hb.2 h2⟩
def someNd : PR Nd → PR (Option Nd)
  | .err c x => .err c x
  | .ok n rs => .ok (some n) rs
theorem pOne_paren {f d : Nat} {t : Tok} {rs : List Tok} {r : PR Nd} (hk : t.kind = 5) (ht : t.text = [40]) (h : (if d = 24 then some (.err 2 t.pos) else match pChoice f (d + 1) rs with
        | none => none
        | some (.err c x) => some (.err c x)
        | some (.ok n rs2) => if sgnOf rs2 = [41] then some (.ok n rs2.tail) else some (.err (badE rs2) (posT rs2))) = some r) : pOne (f + 1) d (t :: rs) = some (someNd r) := by
  rw [pOne, if_neg (by omega), if_neg (by omega), if_neg (by omega), if_neg (by rw [ht]; simp), if_pos ⟨hk, ht⟩]
  split at h
  · next h24 =>
    rw [if_pos h24]
    cases h
    rfl
  · next h24 =>
    rw [if_neg h24]
    split at h
    · cases h
    · next e => rw [e]; cases h; rfl
    · next e =>
      rw [e]
      simp only
      split at h
      · next hs => rw [if_pos hs]; cases h; rfl
      · next hs => rw [if_neg hs]; cases h; rfl
set_option maxRecDepth 100000 in
set_option maxHeartbeats 3200000 in
theorem one_paren {R g o c d : Nat} {t u : Tok} {l : List Tok} {w : World} (h : SR R g o c d (t :: u :: l) w) (hd : d ≤ 24) (hE : EndsT (t :: u :: l)) (hk : t.kind = 5) (ht : t.text = [40]) (IH : ChoiceC R g (u :: l)) :
    Calls Tryd.prog 114 #[.pointer (some ⟨R, 0, none⟩)] w (fun e w' => ∃ f r, pOne f d (t :: u :: l) = some r ∧ OneP R g d (t :: u :: l).length w e w' r) := by
  obtain ⟨c0, c1, fz⟩ := h.cells
  obtain ⟨a0, a1, a2, a3, a4, a5, a6⟩ := h.head
  have HH := Lib.hid h
  have qR := h.ltR
  have qg := h.lt
  have qR1 : R < w.heap.size + 1 := by omega
  have qg1 : g < w.heap.size + 1 := by omega
  have qR2 : R < w.heap.size + 1 + 1 := by omega
  have HE := Lib.hid hE
  have hm1 := cell_alloc_lt
  have hm2 := frozen_alloc_lt
  have hm5 := cell_a3
  have hm6 := frozen_a3
  clear h hE
  dsimp only [List.length] at c0
  have HI := Lib.hid IH
  have HT := Lib.hid ht
  have HK := Lib.hid hk
  clear IH
  rw [hk] at a0
  rw [ht] at a1
  have e40 : mkS [40] = ⟨#[40]⟩ := rfl
  rw [e40] at a1
  clear ht hk
  go_enter Tryd.func114, Tryd.ntmps114
  repeat (first | go_values | go_skip | go_guarded | go_step | go_upon)
  refine (within_any (((HH.out.alloc _).alloc _).alloc _) hd HE.out (by rw [HK.out]; decide) HI.out).mono ?_
  rintro e w1 ⟨f, r, hf, hr⟩
  have HP := Lib.hid (pOne_paren HK.out HT.out hf)
  clear hf
  cases r with
  | err ec ex =>
    obtain ⟨⟨p, rfl, hp, hl⟩, g1⟩ := hr
    dsimp only
    repeat (first | go_values | go_skip | go_guarded | go_step | go_upon)
    simp only [World.size_alloc] at hl
    exact ⟨rfl, f + 1, _, HP.out, ⟨p, rfl, hp, by omega⟩, (below_gby _ (bal (bal (bal (Below.refl _ _) _) _) _)).trans g1⟩
  | ok n rs2 =>
    obtain ⟨cc, rfl, hrep, ⟨o2, c2, h2⟩, g2, hE3, hlen⟩ := hr
    obtain ⟨k0, t0, x0, v0, l0, e1, e2, h3⟩ := hrep.form
    obtain ⟨sa, sn, sc, rfl⟩ := h3.slice
    obtain rfl : cc = (ndC k0 t0 x0 (.slice sa sn sc) n.pos).toArray := by rw [← e2]
    obtain ⟨hcB, hfB⟩ := gcell (b := w.heap.size) g2 (by simp; omega) (by omega)
    have z2 := g2.size
    simp only [World.size_alloc] at z2
    have H2 := Lib.hid h2
    have G2 := Lib.hid g2
    have HR := Lib.hid (rep_wide hrep (fun b h => h.blk (lo := w.heap.size + 1 + 1 + 1) (by simp)))
    have HE3 := Lib.hid hE3
    clear h2 g2 hrep e1 e2 h3 hE3
    dsimp only [ndC]
    repeat (first | go_values | go_skip | go_guarded | go_step | go_upon)
    refine bodyPost_ret (v := .tuple #[.agg (ndC k0 t0 x0 (.slice sa sn sc) n.pos).toArray, .bool true]) (by simp [ndC, results, Tryd.results114, go_sem, hcB, hm1, cell_a2, cell_a3, frozen_a2, frozen_a3]) rfl ?_
    refine ⟨f + 1, _, HP.out, (ndC k0 t0 x0 (.slice sa sn sc) n.pos).toArray, rfl, ?_, ⟨o2, c2, ?_⟩, ?_, HE3.out, by simp at hlen ⊢; omega⟩
    · refine rep_wide (P := Blk (w.heap.size + 1 + 1 + 1) w1.heap.size) ?_ (fun b h => h.fresh (by omega) (by simp))
      repeat (with_reducible refine rep_set ?_ (fun b h => by have := h.lo; omega) _ _)
      exact HR.out
    · repeat (with_reducible refine SR.set ?_ (by omega) (by omega) _ _)
      exact H2.out
    · repeat (with_reducible refine gby_set ?_ (Nat.le_refl _) _ _)
      exact (below_gby _ (bal (bal (bal (Below.refl _ _) _) _) _)).trans G2.out
end Go.Proofs.YtlohpplpnddfaaaDoor
namespace Go.Proofs.YtlohpplpnddfaaaDoor
open Go.RowKit Go.Sort

theorem one_full {R g o c d : Nat} {t : Tok} {rs : List Tok} {w : World} (h : SR R g o c d (t :: rs) w) (hd : d ≤ 24) (hE : EndsT (t :: rs)) (IH : ∀ l : List Tok, l.length < (t :: rs).length → ChoiceC R g l) :
    Calls Tryd.prog 114 #[.pointer (some ⟨R, 0, none⟩)] w (fun e w' => ∃ f r, pOne f d (t :: rs) = some r ∧ OneP R g d (t :: rs).length w e w' r) := by
  by_cases h1 : t.kind = 1
  · obtain ⟨u, l, rfl, _⟩ := hE.more (by omega)
    by_cases hu : u.kind = 2
    · exact (one_arrow h hE h1 hu).mono fun e w' hp => ⟨1, _, by rw [pOne, if_pos h1, if_pos (by exact hu)], hp⟩
    · exact (one_ref h hE h1 hu).mono fun e w' hp => ⟨1, _, by rw [pOne, if_pos h1, if_neg (by exact hu)], hp⟩
  by_cases h3 : t.kind = 3
  · obtain ⟨u, l, rfl, _⟩ := hE.more (by omega)
    exact (one_leaf h hE 2 (.inl ⟨h3, rfl⟩)).mono fun e w' hp => ⟨1, _, by rw [pOne, if_neg h1, if_pos h3], hp⟩
  by_cases h4 : t.kind = 4
  · obtain ⟨u, l, rfl, _⟩ := hE.more (by omega)
    exact (one_leaf h hE 3 (.inr ⟨h4, rfl⟩)).mono fun e w' hp => ⟨1, _, by rw [pOne, if_neg h1, if_neg h3, if_pos h4], hp⟩
  by_cases h5 : t.kind = 5
  · by_cases h46 : t.text = [46]
    · obtain ⟨u, l, rfl, _⟩ := hE.more (by omega)
      exact (one_dot h hE h5 h46).mono fun e w' hp => ⟨1, _, by rw [pOne, if_neg h1, if_neg h3, if_neg h4, if_pos ⟨h5, h46⟩], hp⟩
    by_cases h40 : t.text = [40]
    · obtain ⟨u, l, rfl, _⟩ := hE.more (by omega)
      exact one_paren h hd hE h5 h40 (IH _ (by simp))
    · exact (one_nsign h hE h5 h46 h40).mono fun e w' hp => ⟨1, _, by rw [pOne, if_neg h1, if_neg h3, if_neg h4, if_neg (fun hh => h46 hh.2), if_neg (fun hh => h40 hh.2)], hp⟩
  · exact (one_other h hE h1 h3 h4 h5).mono fun e w' hp => ⟨1, _, by rw [pOne, if_neg h1, if_neg h3, if_neg h4, if_neg (fun hh => h5 hh.1), if_neg (fun hh => h5 hh.1)], hp⟩
end Go.Proofs.YtlohpplpnddfaaaDoor
namespace Go.Proofs.YtlohpplpnddfaaaDoor
open Go.RowKit Go.Sort

theorem info_node : (Tryd.prog.info? 67).map (fun i => (i.zero, i.size, i.bytes)) = some (some (.agg #[.int .i64 0, .string ⟨#[]⟩, .int .u64 0, .int .u64 0, .int .u64 0, .int .u64 0, .slice none 0 0, .int .i64 0]), 8, 88) := by kernel_rfl
/-- What a row's variable holds: the parts read so far, in blocks of its own from a number on; the row's own block is none of the trees'. -/
structure LV (L B : Nat) (ns : List Nd) (v : Value) (cs : List Value) (w : World) : Prop where
  here : w.heap[L]? = some (.cells #[v] 65 (0, 0))
  own : w.ownsRow B 67 8 v ns.length cs
  reps : Reps w (fun b => B ≤ b ∧ b < w.heap.size ∧ v.ownBlock ≠ some b) ns cs
  lt : B = L + 1
  nil : ns = [] → v = .slice none 0 0
theorem LV.ltL {L B : Nat} {ns : List Nd} {v : Value} {cs : List Value} {w : World} (h : LV L B ns v cs w) : L < w.heap.size := (Array.getElem?_eq_some_iff.1 h.here).1
theorem LV.gby {L B R : Nat} {ns : List Nd} {v : Value} {cs : List Value} {w w' : World} (h : LV L B ns v cs w) (hg : w.grownBy w' (some R)) (hR : R < L) : LV L B ns v cs w' := by
  have hlt := h.lt
  refine ⟨(hg.block L h.ltL (fun e => by have := Option.some.inj e; omega)).trans h.here, h.own.kept hg ?_, ?_, hlt, h.nil⟩
  · cases hb : v.ownBlock with
    | none => left; rfl
    | some k => right; have := (h.own.lt k hb).1; simp; omega
  · exact Reps.mono (fun b hb => hg.block b hb.2.1 (fun e => by have := Option.some.inj e; have := hb.1; omega)) (fun b hb => ⟨hb.1, Nat.lt_of_lt_of_le hb.2.1 hg.size, hb.2.2⟩) h.reps
theorem LV.below {L B : Nat} {ns : List Nd} {v : Value} {cs : List Value} {w w' : World} (h : LV L B ns v cs w) (hb : Below w.heap.size w w') : LV L B ns v cs w' :=
  ⟨(hb.block L h.ltL).trans h.here, owns_below h.own hb, Reps.mono (fun b h => hb.block b h.2.1) (fun b h => ⟨h.1, Nat.lt_of_lt_of_le h.2.1 hb.size, h.2.2⟩) h.reps, h.lt, h.nil⟩
theorem LV.alloc {L B : Nat} {ns : List Nd} {v : Value} {cs : List Value} {w : World} (h : LV L B ns v cs w) (o : Obj) : LV L B ns v cs (w.alloc o) := h.below (bal (Below.refl _ _) o)
def set8 (w : World) (g o : Nat) (u0 u1 u2 u3 u4 u5 u6 u7 : Value) : World := (((((((w.setCell ⟨g, o, none⟩ u0).setCell ⟨g, o + 1, none⟩ u1).setCell ⟨g, o + 2, none⟩ u2).setCell ⟨g, o + 3, none⟩ u3).setCell ⟨g, o + 4, none⟩ u4).setCell ⟨g, o + 5, none⟩ u5).setCell ⟨g, o + 6, none⟩ u6).setCell ⟨g, o + 7, none⟩ u7
theorem own_set8 {w : World} {B gg cap m n : Nat} {cs : List Value} {z0 z1 z2 z3 z4 z5 z6 z7 : Value} (hc : cs.length = m) (h : w.ownsRow B 67 8 (.slice (some ⟨gg, 0, none⟩) n cap) n (cs ++ [z0, z1, z2, z3, z4, z5, z6, z7])) (u0 u1 u2 u3 u4 u5 u6 u7 : Value) :
    (set8 w gg m u0 u1 u2 u3 u4 u5 u6 u7).ownsRow B 67 8 (.slice (some ⟨gg, 0, none⟩) n cap) n (cs ++ [u0, u1, u2, u3, u4, u5, u6, u7]) ∧ w.grownBy (set8 w gg m u0 u1 u2 u3 u4 u5 u6 u7) (some gg) := by
  subst hc
  have key : ∀ (l : List Value) (j : Nat) (u : Value), (cs ++ l).set (cs.length + j) u = cs ++ l.set j u := fun l j u => by
    rw [List.set_append_right _ _ (by omega), Nat.add_sub_cancel_left]
  obtain ⟨o0, g0⟩ := h.stored (cs.length + 0) u0
  rw [key] at o0
  obtain ⟨o1, g1⟩ := o0.stored (cs.length + 1) u1
  rw [key] at o1
  obtain ⟨o2, g2⟩ := o1.stored (cs.length + 2) u2
  rw [key] at o2
  obtain ⟨o3, g3⟩ := o2.stored (cs.length + 3) u3
  rw [key] at o3
  obtain ⟨o4, g4⟩ := o3.stored (cs.length + 4) u4
  rw [key] at o4
  obtain ⟨o5, g5⟩ := o4.stored (cs.length + 5) u5
  rw [key] at o5
  obtain ⟨o6, g6⟩ := o5.stored (cs.length + 6) u6
  rw [key] at o6
  obtain ⟨o7, g7⟩ := o6.stored (cs.length + 7) u7
  rw [key] at o7
  exact ⟨o7, g0.trans (g1.trans (g2.trans (g3.trans (g4.trans (g5.trans (g6.trans g7))))))⟩
/-- One part more: the world behind the append, the element and the variable set, in whatever order. -/
theorem LV.push {L B gg cap lo : Nat} {ns : List Nd} {n : Nd} {v : Value} {cs c : List Value} {o : Obj} {w w4 W : World} (h : LV L B ns v cs w) (hg : (w.alloc o).drew.grownBy w4 v.ownBlock) (hat : v.ownBlock = some gg ∨ gg = w.heap.size + 1)
    (hlo : ∀ k, v.ownBlock = some k → k < lo) (hBl : B ≤ lo) (hn : Rep w (Blk lo w.heap.size) n c)
    (hown : W.ownsRow B 67 8 (.slice (some ⟨gg, 0, none⟩) (ns.length + 1) cap) (ns.length + 1) (cs ++ c))
    (hL : W.heap[L]? = some (.cells #[.slice (some ⟨gg, 0, none⟩) (ns.length + 1) cap] 65 (0, 0)))
    (hW : ∀ b, b ≠ gg → b ≠ L → W.heap[b]? = w4.heap[b]?) (hs : w4.heap.size ≤ W.heap.size) : LV L B (ns ++ [n]) (.slice (some ⟨gg, 0, none⟩) (ns.length + 1) cap) (cs ++ c) W := by
  have hlt := h.lt
  have hz := hg.size
  simp at hz
  have key : ∀ b, B ≤ b → b < w.heap.size → v.ownBlock ≠ some b → b ≠ gg ∧ W.heap[b]? = w.heap[b]? := by
    intro b h1 h2 h3
    have hne : b ≠ gg := by
      rintro rfl
      rcases hat with e | e
      · exact h3 e
      · omega
    refine ⟨hne, ?_⟩
    rw [hW b hne (by omega), hg.block b (by simp; omega) (fun e => h3 e.symm)]
    show (w.alloc o).heap[b]? = _
    exact RowKit.Below.heap_alloc _ _ _ h2
  refine ⟨hL, by rw [List.length_append]; exact hown, ?_, hlt, fun e => by simp at e⟩
  refine Reps.snoc ?_ ?_
  · exact Reps.mono (fun b hb => (key b hb.1 hb.2.1 hb.2.2).2) (fun b hb => ⟨hb.1, by have := hb.2.1; omega, fun e => (key b hb.1 hb.2.1 hb.2.2).1 (Option.some.inj e).symm⟩) h.reps
  · have k2 : ∀ b, Blk lo w.heap.size b → v.ownBlock ≠ some b := fun b hb e => by have := hlo b e; have := hb.lo; omega
    exact Rep.mono (fun b hb => (key b (by have := hb.lo; omega) hb.hi (k2 b hb)).2) (fun b hb => ⟨by have := hb.lo; omega, by have := hb.hi; omega, fun e => (key b (by have := hb.lo; omega) hb.hi (k2 b hb)).1 (Option.some.inj e).symm⟩) hn
theorem SR.row {R g o c d : Nat} {rs : List Tok} {w w' : World} {row : Option Nat} (h : SR R g o c d rs w) (hg : w.grownBy w' row) (h1 : row ≠ some R) (h2 : row ≠ some g) : SR R g o c d rs w' :=
  ⟨(hg.block R h.ltR (fun e => h1 e.symm)).trans h.here, h.toks.keep (hg.block g h.lt (fun e => h2 e.symm)), Nat.lt_of_lt_of_le h.lt hg.size, h.ne, h.cap⟩
theorem SR.drew {R g o c d : Nat} {rs : List Tok} {w : World} (h : SR R g o c d rs w) : SR R g o c d rs w.drew := h.below (drew_below w)
theorem gby_row {w w1 w2 : World} {r row : Option Nat} (h : w.grownBy w1 r) (hg : w1.grownBy w2 row) (hr : ∀ k, row = some k → w.heap.size ≤ k) : w.grownBy w2 r :=
  ⟨hg.os.trans h.os, hg.tape.trans h.tape, hg.output.trans h.output, Nat.le_trans h.size hg.size, fun k hk hne => (hg.block k (Nat.lt_of_lt_of_le hk h.size) (fun e => by have := hr k e.symm; omega)).trans (h.block k hk hne)⟩
theorem SR.set8 {R g o c d k i : Nat} {rs : List Tok} {w : World} (h : SR R g o c d rs w) (h1 : k ≠ R) (h2 : k ≠ g) (u0 u1 u2 u3 u4 u5 u6 u7 : Value) : SR R g o c d rs (set8 w k i u0 u1 u2 u3 u4 u5 u6 u7) :=
  (((((((h.set h1 h2 _ u0).set h1 h2 _ u1).set h1 h2 _ u2).set h1 h2 _ u3).set h1 h2 _ u4).set h1 h2 _ u5).set h1 h2 _ u6).set h1 h2 _ u7
theorem gby_set8 {w w1 : World} {r : Option Nat} (h : w.grownBy w1 r) {k : Nat} (hk : w.heap.size ≤ k) (i : Nat) (u0 u1 u2 u3 u4 u5 u6 u7 : Value) : w.grownBy (set8 w1 k i u0 u1 u2 u3 u4 u5 u6 u7) r :=
  gby_set (gby_set (gby_set (gby_set (gby_set (gby_set (gby_set (gby_set h hk _ u0) hk _ u1) hk _ u2) hk _ u3) hk _ u4) hk _ u5) hk _ u6) hk _ u7
theorem set8_heap (w : World) (g o b : Nat) (u0 u1 u2 u3 u4 u5 u6 u7 : Value) (hb : b ≠ g) : (set8 w g o u0 u1 u2 u3 u4 u5 u6 u7).heap[b]? = w.heap[b]? := by
  unfold set8
  rw [heap_setCell_other _ _ _ _ hb, heap_setCell_other _ _ _ _ hb, heap_setCell_other _ _ _ _ hb, heap_setCell_other _ _ _ _ hb, heap_setCell_other _ _ _ _ hb, heap_setCell_other _ _ _ _ hb, heap_setCell_other _ _ _ _ hb, heap_setCell_other _ _ _ _ hb]
theorem set8_size (w : World) (g o : Nat) (u0 u1 u2 u3 u4 u5 u6 u7 : Value) : (set8 w g o u0 u1 u2 u3 u4 u5 u6 u7).heap.size = w.heap.size := by
  unfold set8; simp
/-- The two worlds behind '*l = append(*l, n)'. -/
theorem part_end {L B gg cap lo R g o c d i : Nat} {rs : List Tok} {ns : List Nd} {n : Nd} {v : Value} {cs : List Value} {u0 u1 u2 u3 u4 u5 u6 u7 z0 z1 z2 z3 z4 z5 z6 z7 : Value} {x : Obj} {w0 w w4 : World} (h : LV L B ns v cs w) (hs : SR R g o c d rs w) (h0 : R < w0.heap.size ∧ g < w0.heap.size ∧ w0.heap.size ≤ L) (hg0 : w0.grownBy w (some R)) (hg : (w.alloc x).drew.grownBy w4 v.ownBlock) (hat : v.ownBlock = some gg ∨ gg = w.heap.size + 1)
    (hlo : ∀ k, v.ownBlock = some k → k < lo) (hBl : B ≤ lo) (hn : Rep w (Blk lo w.heap.size) n [u0, u1, u2, u3, u4, u5, u6, u7]) (hi : cs.length = i)
    (hown : w4.ownsRow B 67 8 (.slice (some ⟨gg, 0, none⟩) (ns.length + 1) cap) (ns.length + 1) (cs ++ [z0, z1, z2, z3, z4, z5, z6, z7]))
    (hL : w4.heap[L]? = some (.cells #[v] 65 (0, 0))) :
    (let W := (set8 w4 gg i u0 u1 u2 u3 u4 u5 u6 u7).setCell ⟨L, 0, none⟩ (.slice (some ⟨gg, 0, none⟩) (ns.length + 1) cap)
     LV L B (ns ++ [n]) (.slice (some ⟨gg, 0, none⟩) (ns.length + 1) cap) (cs ++ [u0, u1, u2, u3, u4, u5, u6, u7]) W ∧ SR R g o c d rs W ∧ w0.grownBy W (some R)) ∧
    (let W := set8 (w4.setCell ⟨L, 0, none⟩ (.slice (some ⟨gg, 0, none⟩) (ns.length + 1) cap)) gg i u0 u1 u2 u3 u4 u5 u6 u7
     LV L B (ns ++ [n]) (.slice (some ⟨gg, 0, none⟩) (ns.length + 1) cap) (cs ++ [u0, u1, u2, u3, u4, u5, u6, u7]) W ∧ SR R g o c d rs W ∧ w0.grownBy W (some R)) := by
  have hlt := h.lt
  have hBg := (owns_block hown).1
  have hne : gg ≠ L := by omega
  have s4 : SR R g o c d rs w4 := (hs.alloc x).drew.row hg (fun e => by have := (h.own.lt R e).1; omega) (fun e => by have := (h.own.lt g e).1; omega)
  have g4 : w0.grownBy w4 (some R) := gby_row (gby_below (gby_alloc hg0 x) (drew_below _)) hg (fun k hk => by have := (h.own.lt k hk).1; omega)
  have kL : ∀ (w' : World) (s : Value), w'.grownBy (w'.setCell ⟨L, 0, none⟩ s) (some L) := fun w' s => gsetk w' ⟨L, 0, none⟩ s
  have keepL : ∀ (w' : World) (s : Value) (xs : List Value), w'.ownsRow B 67 8 (.slice (some ⟨gg, 0, none⟩) (ns.length + 1) cap) (ns.length + 1) xs → (w'.setCell ⟨L, 0, none⟩ s).ownsRow B 67 8 (.slice (some ⟨gg, 0, none⟩) (ns.length + 1) cap) (ns.length + 1) xs := fun w' s xs hh => hh.kept (kL w' s) (by right; intro e; exact hne (Option.some.inj e))
  refine ⟨⟨?_, ?_, ?_⟩, ⟨?_, ?_, ?_⟩⟩
  · refine h.push hg hat hlo hBl hn (keepL _ _ _ (own_set8 hi hown _ _ _ _ _ _ _ _).1) ?_ (fun b h1 h2 => (heap_setCell_other _ _ b _ h2).trans (set8_heap _ _ _ b _ _ _ _ _ _ _ _ h1)) (by simp [set8_size])
    exact heap_setCell_same _ L 0 _ _ _ ((set8_heap _ _ _ L _ _ _ _ _ _ _ _ hne.symm).trans hL)
  · exact (s4.set8 (by omega) (by omega) _ _ _ _ _ _ _ _).set (by omega) (by omega) _ _
  · exact gby_set (gby_set8 g4 (by omega) _ _ _ _ _ _ _ _ _) (by omega) _ _
  · refine h.push hg hat hlo hBl hn (own_set8 hi (keepL _ _ _ hown) _ _ _ _ _ _ _ _).1 ?_ (fun b h1 h2 => (set8_heap _ _ _ b _ _ _ _ _ _ _ _ h1).trans (heap_setCell_other _ _ b _ h2)) (by simp [set8_size])
    exact (set8_heap _ _ _ L _ _ _ _ _ _ _ _ hne.symm).trans (heap_setCell_same _ L 0 _ _ _ hL)
  · exact (s4.set (by omega) (by omega) _ _).set8 (by omega) (by omega) _ _ _ _ _ _ _ _
  · exact gby_set8 (gby_set g4 (by omega) _ _) (by omega) _ _ _ _ _ _ _ _ _
end Go.Proofs.YtlohpplpnddfaaaDoor
namespace Go.Proofs.YtlohpplpnddfaaaDoor
open Go.RowKit Go.Sort

theorem new8 {w : World} {B gg cap m : Nat} {cs : List Value} (h : w.ownsRow B 67 8 (.slice (some ⟨gg, 0, none⟩) (m + 1) cap) (m + 1) (cs ++ [.int .i64 0, .string ⟨#[]⟩, .int .u64 0, .int .u64 0, .int .u64 0, .int .u64 0, .slice none 0 0, .int .i64 0])) :
    w.cell? ⟨gg, m * 8, none⟩ = some (.int .i64 0) ∧ w.cell? ⟨gg, m * 8 + 1, none⟩ = some (.string ⟨#[]⟩) ∧ w.cell? ⟨gg, m * 8 + 2, none⟩ = some (.int .u64 0) ∧ w.cell? ⟨gg, m * 8 + 3, none⟩ = some (.int .u64 0) ∧ w.cell? ⟨gg, m * 8 + 4, none⟩ = some (.int .u64 0) ∧ w.cell? ⟨gg, m * 8 + 5, none⟩ = some (.int .u64 0) ∧ w.cell? ⟨gg, m * 8 + 6, none⟩ = some (.slice none 0 0) ∧ w.cell? ⟨gg, m * 8 + 7, none⟩ = some (.int .i64 0) ∧ ∀ j, w.frozen? ⟨gg, j, none⟩ = false := by
  have hl := h.1
  simp at hl
  have hc : cs.length = m * 8 := by omega
  have key : ∀ j, j < 8 → w.cell? ⟨gg, m * 8 + j, none⟩ = ([.int .i64 0, .string ⟨#[]⟩, .int .u64 0, .int .u64 0, .int .u64 0, .int .u64 0, .slice none 0 0, .int .i64 0] : List Value)[j]? := fun j hj => by
    rw [h.cellAt _ (by omega), List.getElem?_append_right (by omega), hc, Nat.add_sub_cancel_left]
  exact ⟨key 0 (by decide), key 1 (by decide), key 2 (by decide), key 3 (by decide), key 4 (by decide), key 5 (by decide), key 6 (by decide), key 7 (by decide), h.frozenAt⟩
/-- A variable below the rows, behind an append. -/
theorem low_cell {w w' : World} {L B : Nat} {v : Value} {n : Nat} {cs : List Value} {o : Obj} {x : Value} (hv : w.ownsRow B 67 8 v n cs) (hg : (w.alloc o).drew.grownBy w' v.ownBlock) (hL : L < w.heap.size) (hB : L < B) (hx : w.heap[L]? = some (.cells #[x] 65 (0, 0))) : w'.cell? ⟨L, 0, none⟩ = some x ∧ (∀ j, w'.frozen? ⟨L, j, none⟩ = false) ∧ w'.heap[L]? = some (.cells #[x] 65 (0, 0)) := by
  have e : w'.heap[L]? = some (.cells #[x] 65 (0, 0)) := by
    rw [hg.block L (by simp; omega) (fun e => by have := (hv.lt L e.symm).1; omega)]
    show (w.alloc o).heap[L]? = _
    rw [RowKit.Below.heap_alloc _ _ _ hL, hx]
  exact ⟨(cells_at e).1 0, (cells_at e).2.1, e⟩
/-- What reading a part comes to. -/
def PartP (R g d len L B : Nat) (w0 : World) (ns : List Nd) (e : Ending) (w' : World) : PR (Option Nd) → Prop
  | .err c x => PanF c x w0 e w' ∧ w0.grownBy w' (some R)
  | .ok none rs => e = .returned (.bool false) ∧ (∃ v cs, LV L B ns v cs w') ∧ (∃ o c, SR R g o c d rs w') ∧ w0.grownBy w' (some R) ∧ EndsT rs ∧ rs.length ≤ len
  | .ok (some n) rs => e = .returned (.bool true) ∧ (∃ v cs, LV L B (ns ++ [n]) v cs w') ∧ (∃ o c, SR R g o c d rs w') ∧ w0.grownBy w' (some R) ∧ EndsT rs ∧ rs.length < len
/-- The state of part: the reader; the token that came first, in its block T. -/
structure P1 (R g d T : Nat) (wS : World) (t : Tok) (rs : List Tok) (w : World) : Prop where
  rd : ∃ o c, SR R g o c d rs w
  grow : wS.grownBy w (some R)
  tok : w.heap[T]? = some (.cells (tokC t).toArray 53 (0, 0))
theorem P1.ltT {R g d T : Nat} {wS : World} {t : Tok} {rs : List Tok} {w : World} (h : P1 R g d T wS t rs w) : T < w.heap.size := (Array.getElem?_eq_some_iff.1 h.tok).1
theorem P1.turn {R g d T : Nat} {wS : World} {t : Tok} {rs rs2 : List Tok} {w w' : World} (h : P1 R g d T wS t rs w) (hT : R < T) (hg : w.grownBy w' (some R)) (hs : ∃ o c, SR R g o c d rs2 w') : P1 R g d T wS t rs2 w' :=
  ⟨hs, h.grow.trans hg, (hg.block T h.ltT (fun e => by have := Option.some.inj e; omega)).trans h.tok⟩
theorem P1.below {R g d T : Nat} {wS : World} {t : Tok} {rs : List Tok} {w w' : World} (h : P1 R g d T wS t rs w) (hT : R < T) (hb : Below w.heap.size w w') : P1 R g d T wS t rs w' := by
  obtain ⟨o, c, hs⟩ := h.rd
  exact h.turn hT (below_gby _ hb) ⟨o, c, hs.below hb⟩
theorem P1.alloc {R g d T : Nat} {wS : World} {t : Tok} {rs : List Tok} {w : World} (h : P1 R g d T wS t rs w) (hT : R < T) (x : Obj) : P1 R g d T wS t rs (w.alloc x) := h.below hT (bal (Below.refl _ _) x)
theorem P1.set {R g d T N : Nat} {wS : World} {t : Tok} {rs : List Tok} {w : World} (h : P1 R g d T wS t rs w) (hR : R < T) (hg : g < T) (hS : wS.heap.size ≤ T) (hN : T < N) (i : Nat) (u : Value) : P1 R g d T wS t rs (w.setCell ⟨N, i, none⟩ u) := by
  obtain ⟨o, c, hs⟩ := h.rd
  exact ⟨⟨o, c, hs.set (by omega) (by omega) i u⟩, gby_set h.grow (by omega) i u, (heap_setCell_other w ⟨N, i, none⟩ T u (fun e => by have e2 : T = N := e; omega)).trans h.tok⟩
/-- Blocks from one number up to another, but for one. -/
def BlkN (lo hi N b : Nat) : Prop := lo ≤ b ∧ b < hi ∧ b ≠ N
/-- .. and the node in its block N. -/
structure PS (R g d T N : Nat) (wS : World) (t : Tok) (rs : List Tok) (n : Nd) (w : World) : Prop where
  p1 : P1 R g d T wS t rs w
  node : ∃ c : List Value, w.heap[N]? = some (.cells c.toArray 67 (0, 0)) ∧ Rep w (BlkN T w.heap.size N) n c
  lt : T < N
theorem PS.ltN {R g d T N : Nat} {wS : World} {t : Tok} {rs : List Tok} {n : Nd} {w : World} (h : PS R g d T N wS t rs n w) : N < w.heap.size := by
  obtain ⟨c, h1, _⟩ := h.node
  exact (Array.getElem?_eq_some_iff.1 h1).1
theorem PS.turn {R g d T N : Nat} {wS : World} {t : Tok} {rs rs2 : List Tok} {n : Nd} {w w' : World} (h : PS R g d T N wS t rs n w) (hT : R < T) (hg : w.grownBy w' (some R)) (hs : ∃ o c, SR R g o c d rs2 w') : PS R g d T N wS t rs2 n w' := by
  obtain ⟨c, h1, h2⟩ := h.node
  have hlt := h.lt
  refine ⟨h.p1.turn hT hg hs, ⟨c, (hg.block N h.ltN (fun e => by have := Option.some.inj e; omega)).trans h1, ?_⟩, h.lt⟩
  exact Rep.mono (fun b hb => hg.block b hb.2.1 (fun e => by have := Option.some.inj e; have := hb.1; omega)) (fun b hb => ⟨hb.1, Nat.lt_of_lt_of_le hb.2.1 hg.size, hb.2.2⟩) h2
theorem PS.below {R g d T N : Nat} {wS : World} {t : Tok} {rs : List Tok} {n : Nd} {w w' : World} (h : PS R g d T N wS t rs n w) (hT : R < T) (hb : Below w.heap.size w w') : PS R g d T N wS t rs n w' := by
  obtain ⟨o, c, hs⟩ := h.p1.rd
  exact h.turn hT (below_gby _ hb) ⟨o, c, hs.below hb⟩
/-- The node is wrapped: the node's variable is set, a block with the elder node alone is made. -/
theorem PS.wrap {R g d T N : Nat} {wS : World} {t : Tok} {rs : List Tok} {n : Nd} {w : World} {c0 c1 c2 c3 c4 c5 c6 c7 : Value} (h : P1 R g d T wS t rs w) (hR : R < T) (hg : g < T) (hS : wS.heap.size ≤ T) (hN : T < N) (hn : w.heap[N]? = some (.cells #[c0, c1, c2, c3, c4, c5, c6, c7] 67 (0, 0))) (hr : Rep w (BlkN T w.heap.size N) n [c0, c1, c2, c3, c4, c5, c6, c7]) (k p : Nat) :
    PS R g d T N wS t rs (.mk k [] 0 [n] p) (((((((((w.setCell ⟨N, 0, none⟩ (.int .i64 (k : Int))).setCell ⟨N, 1, none⟩ (.string ⟨#[]⟩)).setCell ⟨N, 2, none⟩ (.int .u64 0)).setCell ⟨N, 3, none⟩ (.int .u64 0)).setCell ⟨N, 4, none⟩ (.int .u64 0)).setCell ⟨N, 5, none⟩ (.int .u64 0)).setCell ⟨N, 6, none⟩ (.slice (some ⟨w.heap.size, 0, none⟩) 1 1)).setCell ⟨N, 7, none⟩ (.int .i64 (p : Int))).alloc (.cells #[c0, c1, c2, c3, c4, c5, c6, c7] 67)) := by
  have hlt : N < w.heap.size := (Array.getElem?_eq_some_iff.1 hn).1
  have n1 := heap_setCell_same _ N 0 _ _ (.int .i64 (k : Int)) hn
  have n2 := heap_setCell_same _ N 1 _ _ (.string ⟨#[]⟩) n1
  have n3 := heap_setCell_same _ N 2 _ _ (.int .u64 0) n2
  have n4 := heap_setCell_same _ N 3 _ _ (.int .u64 0) n3
  have n5 := heap_setCell_same _ N 4 _ _ (.int .u64 0) n4
  have n6 := heap_setCell_same _ N 5 _ _ (.int .u64 0) n5
  have n7 := heap_setCell_same _ N 6 _ _ (.slice (some ⟨w.heap.size, 0, none⟩) 1 1) n6
  have n8 := heap_setCell_same _ N 7 _ _ (.int .i64 (p : Int)) n7
  have h8 := (((((((h.set hR hg hS hN 0 (.int .i64 (k : Int))).set hR hg hS hN 1 (.string ⟨#[]⟩)).set hR hg hS hN 2 (.int .u64 0)).set hR hg hS hN 3 (.int .u64 0)).set hR hg hS hN 4 (.int .u64 0)).set hR hg hS hN 5 (.int .u64 0)).set hR hg hS hN 6 (.slice (some ⟨w.heap.size, 0, none⟩) 1 1)).set hR hg hS hN 7 (.int .i64 (p : Int))
  have keep : ∀ b, b ≠ N → (((((((((w.setCell ⟨N, 0, none⟩ (.int .i64 (k : Int))).setCell ⟨N, 1, none⟩ (.string ⟨#[]⟩)).setCell ⟨N, 2, none⟩ (.int .u64 0)).setCell ⟨N, 3, none⟩ (.int .u64 0)).setCell ⟨N, 4, none⟩ (.int .u64 0)).setCell ⟨N, 5, none⟩ (.int .u64 0)).setCell ⟨N, 6, none⟩ (.slice (some ⟨w.heap.size, 0, none⟩) 1 1)).setCell ⟨N, 7, none⟩ (.int .i64 (p : Int)))).heap[b]? = w.heap[b]? := fun b hne => by
    rw [heap_setCell_other _ _ _ _ hne, heap_setCell_other _ _ _ _ hne, heap_setCell_other _ _ _ _ hne, heap_setCell_other _ _ _ _ hne, heap_setCell_other _ _ _ _ hne, heap_setCell_other _ _ _ _ hne, heap_setCell_other _ _ _ _ hne, heap_setCell_other _ _ _ _ hne]
  have hsz : (((((((((w.setCell ⟨N, 0, none⟩ (.int .i64 (k : Int))).setCell ⟨N, 1, none⟩ (.string ⟨#[]⟩)).setCell ⟨N, 2, none⟩ (.int .u64 0)).setCell ⟨N, 3, none⟩ (.int .u64 0)).setCell ⟨N, 4, none⟩ (.int .u64 0)).setCell ⟨N, 5, none⟩ (.int .u64 0)).setCell ⟨N, 6, none⟩ (.slice (some ⟨w.heap.size, 0, none⟩) 1 1)).setCell ⟨N, 7, none⟩ (.int .i64 (p : Int)))).heap.size = w.heap.size := by simp
  revert n8 h8 keep hsz
  generalize (((((((((w.setCell ⟨N, 0, none⟩ (.int .i64 (k : Int))).setCell ⟨N, 1, none⟩ (.string ⟨#[]⟩)).setCell ⟨N, 2, none⟩ (.int .u64 0)).setCell ⟨N, 3, none⟩ (.int .u64 0)).setCell ⟨N, 4, none⟩ (.int .u64 0)).setCell ⟨N, 5, none⟩ (.int .u64 0)).setCell ⟨N, 6, none⟩ (.slice (some ⟨w.heap.size, 0, none⟩) 1 1)).setCell ⟨N, 7, none⟩ (.int .i64 (p : Int)))) = W
  intro n8 h8 keep hsz
  refine ⟨h8.alloc hR _, ⟨ndC k [] 0 (.slice (some ⟨w.heap.size, 0, none⟩) 1 1) p, ?_, ?_⟩, hN⟩
  · refine (RowKit.Below.heap_alloc _ _ _ (by omega)).trans (n8.trans ?_)
    simp [ndC, mkS, wd_zero]
  · refine .mk (.row (l := [n]) (g := w.heap.size) (cap := 1) (cur := #[c0, c1, c2, c3, c4, c5, c6, c7]) ⟨by omega, by rw [World.size_alloc]; omega, by omega⟩ ?_ (by simp) (by simp) (by unfold maxLen; simp) rfl ?_)
    · rw [← hsz]
      exact heap_alloc_new _ _
    · refine .cons (c := [c0, c1, c2, c3, c4, c5, c6, c7]) (cs := []) ?_ .nil
      refine Rep.mono (fun b hb => ?_) (fun b hb => ⟨hb.1, by have := hb.2.1; rw [World.size_alloc]; omega, hb.2.2⟩) hr
      rw [← keep b hb.2.2]
      exact RowKit.Below.heap_alloc _ _ _ (by have := hb.2.1; omega)
/-- What a row's part leaves. -/
def PartF (R g d L B : Nat) (w0 : World) (ns : List Nd) (rs : List Tok) (w : World) : Prop := (∃ v cs, LV L B ns v cs w) ∧ (∃ o c, SR R g o c d rs w) ∧ w0.grownBy w (some R)
/-- The two worlds behind '*l = append(*l, n)'. -/
theorem part_fin {L B gg cap lo R g o c d m : Nat} {rs : List Tok} {ns : List Nd} {n : Nd} {v : Value} {cs : List Value} {u0 u1 u2 u3 u4 u5 u6 u7 z0 z1 z2 z3 z4 z5 z6 z7 : Value} {x : Obj} {w0 w w4 : World} (hm : m = ns.length) (h : LV L B ns v cs w) (hs : SR R g o c d rs w) (h0 : R < w0.heap.size ∧ g < w0.heap.size ∧ w0.heap.size ≤ L) (hg0 : w0.grownBy w (some R)) (hg : (w.alloc x).drew.grownBy w4 v.ownBlock) (hat : v.ownBlock = some gg ∨ gg = w.heap.size + 1)
    (hlo : ∀ k, v.ownBlock = some k → k < lo) (hBl : B ≤ lo) (hn : Rep w (Blk lo w.heap.size) n [u0, u1, u2, u3, u4, u5, u6, u7])
    (hown : w4.ownsRow B 67 8 (.slice (some ⟨gg, 0, none⟩) (m + 1) cap) (m + 1) (cs ++ [z0, z1, z2, z3, z4, z5, z6, z7]))
    (hL : w4.heap[L]? = some (.cells #[v] 65 (0, 0))) :
    PartF R g d L B w0 (ns ++ [n]) rs (((((((((w4.setCell ⟨gg, m * 8, none⟩ u0).setCell ⟨gg, m * 8 + 1, none⟩ u1).setCell ⟨gg, m * 8 + 2, none⟩ u2).setCell ⟨gg, m * 8 + 3, none⟩ u3).setCell ⟨gg, m * 8 + 4, none⟩ u4).setCell ⟨gg, m * 8 + 5, none⟩ u5).setCell ⟨gg, m * 8 + 6, none⟩ u6).setCell ⟨gg, m * 8 + 7, none⟩ u7).setCell ⟨L, 0, none⟩ (.slice (some ⟨gg, 0, none⟩) (m + 1) cap)) ∧ PartF R g d L B w0 (ns ++ [n]) rs (((((((((w4.setCell ⟨L, 0, none⟩ (.slice (some ⟨gg, 0, none⟩) (m + 1) cap)).setCell ⟨gg, m * 8, none⟩ u0).setCell ⟨gg, m * 8 + 1, none⟩ u1).setCell ⟨gg, m * 8 + 2, none⟩ u2).setCell ⟨gg, m * 8 + 3, none⟩ u3).setCell ⟨gg, m * 8 + 4, none⟩ u4).setCell ⟨gg, m * 8 + 5, none⟩ u5).setCell ⟨gg, m * 8 + 6, none⟩ u6).setCell ⟨gg, m * 8 + 7, none⟩ u7) := by
  subst hm
  have hi : cs.length = ns.length * 8 := h.own.1
  obtain ⟨⟨p1, p2, p3⟩, ⟨y1, y2, y3⟩⟩ := part_end h hs h0 hg0 hg hat hlo hBl hn hi hown hL
  exact ⟨⟨⟨_, _, p1⟩, ⟨_, _, p2⟩, p3⟩, ⟨⟨_, _, y1⟩, ⟨_, _, y2⟩, y3⟩⟩
end Go.Proofs.YtlohpplpnddfaaaDoor
namespace Go.Proofs.YtlohpplpnddfaaaDoor
open Go.RowKit Go.Sort

theorem pre_tok {t : Tok} {rs : List Tok} (hE : EndsT (t :: rs)) : ∃ u l, (if preK (sgnOf (t :: rs)) = 0 then t :: rs else rs) = u :: l ∧ EndsT (u :: l) ∧ (u :: l).length ≤ (t :: rs).length := by
  by_cases h : preK (sgnOf (t :: rs)) = 0
  · exact ⟨t, rs, by rw [if_pos h], hE, Nat.le_refl _⟩
  · have hs : sgnOf (t :: rs) ≠ [] := fun e => h (by rw [e]; rfl)
    obtain ⟨hk, _⟩ := sgn_kind hs
    obtain ⟨u, l, rfl, hE2⟩ := hE.more (by omega)
    exact ⟨u, l, by rw [if_neg h], hE2, by simp⟩
theorem suf_tok {t : Tok} {rs : List Tok} (hE : EndsT (t :: rs)) : ∃ u l, (if sufK (sgnOf (t :: rs)) = 0 then t :: rs else rs) = u :: l ∧ EndsT (u :: l) ∧ (u :: l).length ≤ (t :: rs).length := by
  by_cases h : sufK (sgnOf (t :: rs)) = 0
  · exact ⟨t, rs, by rw [if_pos h], hE, Nat.le_refl _⟩
  · have hs : sgnOf (t :: rs) ≠ [] := fun e => h (by rw [e]; rfl)
    obtain ⟨hk, _⟩ := sgn_kind hs
    obtain ⟨u, l, rfl, hE2⟩ := hE.more (by omega)
    exact ⟨u, l, by rw [if_neg h], hE2, by simp⟩
set_option maxRecDepth 100000 in
set_option maxHeartbeats 6400000 in
theorem part_any {R g o c d L B : Nat} {t : Tok} {rs : List Tok} {w w0 : World} {ns : List Nd} {v : Value} {cs : List Value} (h : SR R g o c d (t :: rs) w) (hd : d ≤ 24) (hE : EndsT (t :: rs)) (hL : LV L B ns v cs w) (hg : w0.grownBy w (some R)) (h0 : R < w0.heap.size ∧ g < w0.heap.size ∧ w0.heap.size ≤ L) (IH : ∀ l : List Tok, l.length < (t :: rs).length → ChoiceC R g l) (hns : ns.length ≤ 10000) :
    Calls Tryd.prog 112 #[.pointer (some ⟨R, 0, none⟩), .pointer (some ⟨L, 0, none⟩)] w (fun e w' => ∃ f r, pPart f d (t :: rs) = some r ∧ PartP R g d (t :: rs).length L B w0 ns e w' r) := by
  obtain ⟨u1, l1, hr1, hE1, hlen1⟩ := pre_tok hE
  have HR1 := Lib.hid hr1
  have HE1 := Lib.hid hE1
  obtain ⟨c0, c1, fz⟩ := h.cells
  obtain ⟨a0, a1, a2, a3, a4, a5, a6⟩ := h.head
  have HH := Lib.hid h
  have qR := h.ltR
  have qg := h.lt
  have HE := Lib.hid hE
  have HLV := Lib.hid hL
  have HG := Lib.hid hg
  have HI := Lib.hid IH
  have qL := hL.ltL
  have hm1 := cell_alloc_lt
  have hm2 := frozen_alloc_lt
  obtain ⟨k, hk⟩ : ∃ k, k = preK (sgnOf (t :: rs)) := ⟨_, rfl⟩
  have HK := Lib.hid hk
  clear h hE hL hg IH hr1 hE1 hk
  dsimp only [List.length] at c0
  go_enter Tryd.func112, Tryd.ntmps112
  repeat (first | go_values | go_skip | go_guarded | go_step | go_upon)
  refine (ssign_any (HH.out.alloc _)).mono ?_
  rintro e w1 ⟨rfl, hb1⟩
  have z1 := hb1.size
  simp only [World.size_alloc] at z1
  have HP1 := Lib.hid (show P1 R g d w.heap.size w t (t :: rs) w1 from ⟨⟨o, c, (HH.out.alloc _).below hb1⟩, below_gby _ (bstep (bal (Below.refl _ _) _) hb1), (hb1.block w.heap.size (by simp)).trans (heap_alloc_new _ _)⟩)
  dsimp only
  clear c0 c1 fz a0 a1 a2 a3 a4 a5 a6 hb1
  repeat (go_not_at_block 0; first | go_values | go_skip | go_guarded | go_step | go_upon)
  go_cut [6] from 18 to 74 (fun s6 wx => s6 = .int .i64 (k : Int) ∧ wx = w1)
  case first =>
    by_cases e38 : sgnOf (t :: rs) = [38]
    · have s1 : ((mkS (sgnOf (t :: rs))).toList == [38]) = true := by rw [sgn_str]; simpa using e38
      obtain rfl : k = 11 := by rw [HK.out, e38]; rfl
      clear e38
      repeat (first | go_values | go_skip | go_guarded | go_step | go_upon)
      go_meet
      exact ⟨rfl, rfl⟩
    · have s1 : ((mkS (sgnOf (t :: rs))).toList == [38]) = false := by rw [sgn_str]; simpa using e38
      by_cases e33 : sgnOf (t :: rs) = [33]
      · have s2 : ((mkS (sgnOf (t :: rs))).toList == [33]) = true := by rw [sgn_str]; simpa using e33
        obtain rfl : k = 12 := by rw [HK.out, e33]; rfl
        clear e38 e33
        repeat (first | go_values | go_skip | go_guarded | go_step | go_upon)
        go_meet
        exact ⟨rfl, rfl⟩
      · have s2 : ((mkS (sgnOf (t :: rs))).toList == [33]) = false := by rw [sgn_str]; simpa using e33
        obtain rfl : k = 0 := by rw [HK.out, preK, if_neg e38, if_neg e33]
        clear e38 e33
        repeat (first | go_values | go_skip | go_guarded | go_step | go_upon)
        go_meet
        exact ⟨rfl, rfl⟩
  case rest =>
    obtain ⟨rfl, rfl⟩ := hcut
    repeat (go_not_at_if 23; first | go_values | go_skip | go_guarded | go_step | go_upon)
    go_cut [6] from 22 to 74 (fun s6 wx => s6 = .int .i64 (k : Int) ∧ P1 R g d w.heap.size w t (u1 :: l1) wx)
    case first =>
      by_cases hk0 : k = 0
      · subst hk0
        have m1 : (((0 : Nat) : Int) != 0) = false := rfl
        have E1 := Lib.hid (show t :: rs = u1 :: l1 by rw [← HR1.out, if_pos HK.out.symm])
        repeat (first | go_values | go_skip | go_guarded | go_step | go_upon)
        go_meet
        exact ⟨rfl, by rw [← E1.out]; exact HP1.out⟩
      · have m1 : ((k : Int) != 0) = true := by simpa using hk0
        have E1 := Lib.hid (show rs = u1 :: l1 by rw [← HR1.out, if_neg (by rw [← HK.out]; exact hk0)])
        clear hk0
        repeat (first | go_values | go_skip | go_guarded | go_step | go_upon)
        obtain ⟨o1, c1, h1⟩ := HP1.out.rd
        rw [E1.out] at h1
        refine (snext_any h1).mono ?_
        rintro e w2 ⟨rfl, h2, g2⟩
        have H2 := Lib.hid h2
        have G2 := Lib.hid g2
        clear h1 h2 g2
        dsimp only
        repeat (first | go_values | go_skip | go_guarded | go_step | go_upon)
        go_meet
        exact ⟨rfl, HP1.out.turn qR G2.out ⟨_, _, H2.out⟩⟩
    case rest =>
      obtain ⟨rfl, hp⟩ := hcut
      have HP := Lib.hid hp
      obtain ⟨o1, c1, h1⟩ := hp.rd
      have H1 := Lib.hid h1
      have qT := hp.ltT
      clear hp h1
      obtain ⟨wa, rfl⟩ : ∃ wa : World, wa = wc := ⟨_, rfl⟩
      repeat (first | go_values | go_skip | go_guarded | go_step | go_upon)
      refine (one_full H1.out hd HE1.out (fun l hl => HI.out l (Nat.lt_of_lt_of_le hl hlen1))).mono ?_
      rintro e w2 ⟨f, r, hf, hr⟩
      have HF := Lib.hid hf
      have zw := HG.out.size
      clear hf
      cases r with
      | err ec ex =>
        obtain ⟨⟨p, rfl, hp, hl⟩, g2⟩ := hr
        dsimp only
        repeat (first | go_values | go_skip | go_guarded | go_step | go_upon)
        exact ⟨rfl, f + 1, .err ec ex, by rw [pPart, show (t :: rs).tail = rs from rfl, HR1.out, HF.out], ⟨p, rfl, hp, by omega⟩, HG.out.trans (HP.out.grow.trans g2)⟩
      | ok a rs2 =>
        cases a with
        | none =>
          obtain ⟨rfl, ⟨o2, c2, h2⟩, g2, hE3, hlen⟩ := hr
          have H2 := Lib.hid h2
          have G2 := Lib.hid (HP.out.grow.trans g2)
          have z2 := g2.size
          have HE3 := Lib.hid hE3
          clear h2 g2 hE3
          dsimp only [zeroNd]
          by_cases hk0 : k = 0
          · subst hk0
            have m1 : (((0 : Nat) : Int) != 0) = false := rfl
            have HK2 := Lib.hid HK.out.symm
            repeat (first | go_values | go_skip | go_guarded | go_step | go_upon)
            go_ret
            refine ⟨f + 1, .ok none rs2, by rw [pPart, show (t :: rs).tail = rs from rfl, HR1.out, HF.out]; simp only; rw [if_pos HK2.out], rfl, ⟨v, cs, (HLV.out.gby G2.out (by omega)).alloc _⟩, ⟨o2, c2, H2.out.alloc _⟩, gby_alloc (HG.out.trans G2.out) _, HE3.out, Nat.le_trans hlen hlen1⟩
          · have m1 : ((k : Int) != 0) = true := by simpa using hk0
            have HK2 := Lib.hid (show ¬ preK (sgnOf (t :: rs)) = 0 by rw [← HK.out]; exact hk0)
            obtain ⟨u2, l2, rfl⟩ := HE3.out.ne
            clear hk0
            repeat (first | go_values | go_skip | go_guarded | go_step | go_upon)
            refine (swrong_any (H2.out.alloc _)).mono ?_
            rintro e w3 ⟨⟨p, rfl, hp, hl⟩, hb3⟩
            dsimp only
            repeat (first | go_values | go_skip | go_guarded | go_step | go_upon)
            simp only [World.size_alloc] at hl
            exact ⟨rfl, f + 1, .err (badE (u2 :: l2)) u2.pos, by rw [pPart, show (t :: rs).tail = rs from rfl, HR1.out, HF.out]; simp only; rw [if_neg HK2.out]; rfl, ⟨p, rfl, hp, by omega⟩, gby_below (gby_alloc (HG.out.trans G2.out) _) hb3⟩
        | some n =>
          obtain ⟨cc, rfl, hrep, ⟨o2, c2, h2⟩, g2, hE3, hlen⟩ := hr
          obtain ⟨u2, l2, rfl⟩ := hE3.ne
          obtain ⟨k0, t0, x0, v0, l0, e1, e2, h3⟩ := hrep.form
          obtain ⟨sa, sn, sc, rfl⟩ := h3.slice
          obtain rfl : cc = (ndC k0 t0 x0 (.slice sa sn sc) n.pos).toArray := by rw [← e2]
          have z2 := g2.size
          have HPN := Lib.hid (show PS R g d w.heap.size w2.heap.size w t (u2 :: l2) n (w2.alloc (.cells (ndC k0 t0 x0 (.slice sa sn sc) n.pos).toArray 67)) from
            ⟨(HP.out.turn qR g2 ⟨o2, c2, h2⟩).alloc qR _, ⟨ndC k0 t0 x0 (.slice sa sn sc) n.pos, heap_alloc_new _ _, Rep.mono (fun b hb => RowKit.Below.heap_alloc _ _ _ hb.hi) (fun b hb => ⟨by have := hb.lo; omega, by have := hb.hi; rw [World.size_alloc]; omega, by have := hb.hi; omega⟩) hrep⟩, by omega⟩)
          have H2 := Lib.hid h2
          have HE3 := Lib.hid hE3
          obtain ⟨u3, l3, hr3, hE4, hlen3⟩ := suf_tok hE3
          have HR3 := Lib.hid hr3
          have HE4 := Lib.hid hE4
          clear h2 g2 hrep e1 e2 h3 hE3 hr3 hE4
          obtain ⟨n1, hn1⟩ : ∃ n1, n1 = (if sufK (sgnOf (u2 :: l2)) = 0 then n else .mk (sufK (sgnOf (u2 :: l2))) [] 0 [n] n.pos) := ⟨_, rfl⟩
          have HN1 := Lib.hid hn1
          obtain ⟨n2, hn2⟩ : ∃ n2, n2 = (if preK (sgnOf (t :: rs)) = 0 then n1 else .mk (preK (sgnOf (t :: rs))) [] 0 [n1] t.pos) := ⟨_, rfl⟩
          have HN2 := Lib.hid hn2
          have HPP := Lib.hid (show pPart (f + 1) d (t :: rs) = some (.ok (some n2) (u3 :: l3)) by
            rw [pPart, show (t :: rs).tail = rs from rfl, HR1.out, HF.out]; simp only; rw [hn2, hn1, ← HR3.out]; rfl)
          clear hn1 hn2
          dsimp only [ndC]
          repeat (first | go_values | go_skip | go_guarded | go_step | go_upon)
          refine (ssign_any (H2.out.alloc _)).mono ?_
          rintro e w3 ⟨rfl, hb3⟩
          have HPS := Lib.hid (HPN.out.below qR hb3)
          clear hb3
          dsimp only
          repeat (go_not_at_block 1; first | go_values | go_skip | go_guarded | go_step | go_upon)
          obtain ⟨N, hN⟩ : ∃ N, N = w2.heap.size := ⟨_, rfl⟩
          rw [← hN] at HPS ⊢
          have qN : w.heap.size < N := by omega
          clear hN
          go_cut [] from 37 to 74 (fun wx => PS R g d w.heap.size N w t (u3 :: l3) n1 wx)
          case first =>
            by_cases hsf : sufK (sgnOf (u2 :: l2)) = 0
            · have q1 : sgnOf (u2 :: l2) ≠ [43] := by intro e; rw [sufK, if_pos e] at hsf; cases hsf
              have q2 : sgnOf (u2 :: l2) ≠ [42] := by intro e; rw [sufK, if_neg q1, if_pos e] at hsf; cases hsf
              have q3 : sgnOf (u2 :: l2) ≠ [63] := by intro e; rw [sufK, if_neg q1, if_neg q2, if_pos e] at hsf; cases hsf
              have s3 : ((mkS (sgnOf (u2 :: l2))).toList == [43]) = false := by rw [sgn_str]; simpa using q1
              have s4 : ((mkS (sgnOf (u2 :: l2))).toList == [42]) = false := by rw [sgn_str]; simpa using q2
              have s5 : ((mkS (sgnOf (u2 :: l2))).toList == [63]) = false := by rw [sgn_str]; simpa using q3
              have HX := Lib.hid (show PS R g d w.heap.size N w t (u3 :: l3) n1 w3 by rw [← HR3.out, if_pos hsf, HN1.out, if_pos hsf]; exact HPS.out)
              clear q1 q2 q3 hsf
              repeat (first | go_values | go_skip | go_guarded | go_step | go_upon)
              go_meet
              exact HX.out
            · have hfin : ∃ j : Nat, j ≤ 2 ∧ sufK (sgnOf (u2 :: l2)) = 8 + j ∧ ((mkS (sgnOf (u2 :: l2))).toList == [43]) = decide (j = 2) ∧ ((mkS (sgnOf (u2 :: l2))).toList == [42]) = decide (j = 1) ∧ ((mkS (sgnOf (u2 :: l2))).toList == [63]) = decide (j = 0) := by
                rw [sgn_str, sgn_str, sgn_str]
                by_cases q1 : sgnOf (u2 :: l2) = [43]
                · exact ⟨2, by omega, by rw [q1]; rfl, by rw [q1]; rfl, by rw [q1]; rfl, by rw [q1]; rfl⟩
                by_cases q2 : sgnOf (u2 :: l2) = [42]
                · exact ⟨1, by omega, by rw [q2]; rfl, by rw [q2]; rfl, by rw [q2]; rfl, by rw [q2]; rfl⟩
                by_cases q3 : sgnOf (u2 :: l2) = [63]
                · exact ⟨0, by omega, by rw [q3]; rfl, by rw [q3]; rfl, by rw [q3]; rfl, by rw [q3]; rfl⟩
                exact absurd (by rw [sufK, if_neg q1, if_neg q2, if_neg q3]) hsf
              obtain ⟨j, hj, hsk, s3, s4, s5⟩ := hfin
              have E1 := Lib.hid (show l2 = u3 :: l3 by rw [← HR3.out, if_neg hsf])
              have EN := Lib.hid (show n1 = .mk (8 + j) [] 0 [n] n.pos by rw [HN1.out, if_neg hsf, hsk])
              clear hsf hsk
              obtain ⟨o3, c3, h3⟩ := HPS.out.p1.rd
              rw [E1.out] at h3
              have H3 := Lib.hid h3
              clear h3
              obtain rfl | rfl | rfl : j = 0 ∨ j = 1 ∨ j = 2 := by omega
              all_goals
                simp only [decide_true, decide_false, Nat.reduceEqDiff] at s3 s4 s5
                repeat (first | go_values | go_skip | go_guarded | go_step | go_upon)
                refine (snext_any H3.out).mono ?_
                rintro e w4 ⟨rfl, h4, g4⟩
                have HX := Lib.hid (HPS.out.turn qR g4 ⟨_, _, h4⟩)
                obtain ⟨c4, hn4, hr4⟩ := HX.out.node
                obtain ⟨k4, t4, x4, v4, l4, e1, e2, h5⟩ := hr4.form
                obtain ⟨sa4, sn4, sc4, rfl⟩ := h5.slice
                subst e2
                clear e1 h5 h4 g4
                have HNN := Lib.hid hn4
                have HRR := Lib.hid hr4
                have qN4 := HX.out.ltN
                have b0 : w4.cell? ⟨N, 0, none⟩ = some (.int .i64 (k4 : Int)) := (cells_at hn4).1 0
                have b1 : w4.cell? ⟨N, 1, none⟩ = some (.string (mkS t4)) := (cells_at hn4).1 1
                have b2 : w4.cell? ⟨N, 2, none⟩ = some (.int .u64 (wd x4 0)) := (cells_at hn4).1 2
                have b3 : w4.cell? ⟨N, 3, none⟩ = some (.int .u64 (wd x4 1)) := (cells_at hn4).1 3
                have b4 : w4.cell? ⟨N, 4, none⟩ = some (.int .u64 (wd x4 2)) := (cells_at hn4).1 4
                have b5 : w4.cell? ⟨N, 5, none⟩ = some (.int .u64 (wd x4 3)) := (cells_at hn4).1 5
                have b6 : w4.cell? ⟨N, 6, none⟩ = some (.slice sa4 sn4 sc4) := (cells_at hn4).1 6
                have b7 : w4.cell? ⟨N, 7, none⟩ = some (.int .i64 (n.pos : Int)) := (cells_at hn4).1 7
                have bf := (cells_at hn4).2.1
                clear hn4 hr4
                dsimp only
                repeat (first | go_values | go_skip | go_guarded | go_step | go_upon)
                go_meet
                rw [EN.out]
                exact PS.wrap HX.out.p1 qR qg (Nat.le_refl _) qN HNN.out HRR.out _ _
          case rest =>
            obtain ⟨wb, rfl⟩ : ∃ wb : World, wb = wc := ⟨_, rfl⟩
            have HPS2 := Lib.hid hcut
            clear hcut
            repeat (go_not_at_if 59; first | go_values | go_skip | go_guarded | go_step | go_upon)
            go_cut [] from 58 to 74 (fun wx => PS R g d w.heap.size N w t (u3 :: l3) n2 wx)
            case first =>
              by_cases hk0 : k = 0
              · have HX := Lib.hid (show PS R g d w.heap.size N w t (u3 :: l3) n2 wb by rw [HN2.out, if_pos (by rw [← HK.out]; exact hk0)]; exact HPS2.out)
                subst hk0
                have m1 : (((0 : Nat) : Int) != 0) = false := rfl
                repeat (first | go_values | go_skip | go_guarded | go_step | go_upon)
                go_meet
                exact HX.out
              · have m1 : ((k : Int) != 0) = true := by simpa using hk0
                have EN := Lib.hid (show n2 = .mk k [] 0 [n1] t.pos by rw [HN2.out, ← HK.out, if_neg hk0])
                obtain ⟨c4, hn4, hr4⟩ := HPS2.out.node
                obtain ⟨k4, t4, x4, v4, l4, e1, e2, h5⟩ := hr4.form
                obtain ⟨sa4, sn4, sc4, rfl⟩ := h5.slice
                subst e2
                have HNN := Lib.hid hn4
                have HRR := Lib.hid hr4
                have qN4 := HPS2.out.ltN
                have b0 : wb.cell? ⟨N, 0, none⟩ = some (.int .i64 (k4 : Int)) := (cells_at hn4).1 0
                have b1 : wb.cell? ⟨N, 1, none⟩ = some (.string (mkS t4)) := (cells_at hn4).1 1
                have b2 : wb.cell? ⟨N, 2, none⟩ = some (.int .u64 (wd x4 0)) := (cells_at hn4).1 2
                have b3 : wb.cell? ⟨N, 3, none⟩ = some (.int .u64 (wd x4 1)) := (cells_at hn4).1 3
                have b4 : wb.cell? ⟨N, 4, none⟩ = some (.int .u64 (wd x4 2)) := (cells_at hn4).1 4
                have b5 : wb.cell? ⟨N, 5, none⟩ = some (.int .u64 (wd x4 3)) := (cells_at hn4).1 5
                have b6 : wb.cell? ⟨N, 6, none⟩ = some (.slice sa4 sn4 sc4) := (cells_at hn4).1 6
                have b7 : wb.cell? ⟨N, 7, none⟩ = some (.int .i64 (n1.pos : Int)) := (cells_at hn4).1 7
                have bT : wb.cell? ⟨w.heap.size, 6, none⟩ = some (.int .i64 (t.pos : Int)) := (cells_at HPS2.out.p1.tok).1 6
                have qT2 := HPS2.out.p1.ltT
                have bf := (cells_at hn4).2.1
                clear hn4 hr4 hk0 e1 h5
                repeat (first | go_values | go_skip | go_guarded | go_step | go_upon)
                go_meet
                rw [EN.out]
                exact PS.wrap HPS2.out.p1 qR qg (Nat.le_refl _) qN HNN.out HRR.out _ _
            case rest =>
              obtain ⟨w3', rfl⟩ : ∃ w3' : World, w3' = wc := ⟨_, rfl⟩
              have HPS3 := Lib.hid hcut
              obtain ⟨⟨⟨o4, c4, h4⟩, hg4, _⟩, ⟨cN, hn4, hr4⟩, _⟩ := hcut
              have H4 := Lib.hid h4
              have G4 := Lib.hid (HG.out.trans hg4)
              have LV4 := HLV.out.gby hg4 (by omega)
              have hlo : ∀ k, v.ownBlock = some k → k < w.heap.size := fun k hk => (HLV.out.own.lt k hk).2
              obtain ⟨k4, t4, x4, v4, l4, e1, e2, h5⟩ := hr4.form
              obtain ⟨sa4, sn4, sc4, rfl⟩ := h5.slice
              subst e2
              have HRR := Lib.hid (rep_wide hr4 (P' := Blk w.heap.size w3'.heap.size) (fun b hb => ⟨hb.1, hb.2.1⟩))
              have b0 : w3'.cell? ⟨N, 0, none⟩ = some (.int .i64 (k4 : Int)) := (cells_at hn4).1 0
              have b1 : w3'.cell? ⟨N, 1, none⟩ = some (.string (mkS t4)) := (cells_at hn4).1 1
              have b2 : w3'.cell? ⟨N, 2, none⟩ = some (.int .u64 (wd x4 0)) := (cells_at hn4).1 2
              have b3 : w3'.cell? ⟨N, 3, none⟩ = some (.int .u64 (wd x4 1)) := (cells_at hn4).1 3
              have b4 : w3'.cell? ⟨N, 4, none⟩ = some (.int .u64 (wd x4 2)) := (cells_at hn4).1 4
              have b5 : w3'.cell? ⟨N, 5, none⟩ = some (.int .u64 (wd x4 3)) := (cells_at hn4).1 5
              have b6 : w3'.cell? ⟨N, 6, none⟩ = some (.slice sa4 sn4 sc4) := (cells_at hn4).1 6
              have b7 : w3'.cell? ⟨N, 7, none⟩ = some (.int .i64 (n2.pos : Int)) := (cells_at hn4).1 7
              have qN4 := HPS3.out.ltN
              have l1 := LV4.here
              have HL1 := Lib.hid l1
              have HL2 := Lib.hid LV4.own
              have HLV4 := Lib.hid LV4
              have qL4 := LV4.ltL
              have qLB : L < B := by have := LV4.lt; omega
              have hB4 : B ≤ w3'.heap.size := by have := LV4.lt; omega
              have HLO := Lib.hid hlo
              have HBL := Lib.hid (show B ≤ w.heap.size by have := LV4.lt; omega)
              obtain ⟨m, hm⟩ : ∃ m, m = ns.length := ⟨_, rfl⟩
              have hm10 : m ≤ 10000 := by omega
              have hvs : ∃ a cap, v = .slice a m cap := by
                rw [hm]
                rcases owns_form2 HL2.out with ⟨hn0, hv⟩ | ⟨g3, cap3, hv⟩
                · exact ⟨none, 0, by rw [hn0]; exact hv⟩
                · exact ⟨_, _, hv⟩
              obtain ⟨va, vcap, rfl⟩ := hvs
              obtain ⟨i0, iH, iz, is, ib⟩ := info_parts info_node
              have lc : w3'.cell? ⟨L, 0, none⟩ = some (.slice va m vcap) := (cells_at l1).1 0
              have lf := (cells_at l1).2.1
              have HM := Lib.hid hm
              have ik0 : (0 : Int) ≤ (m : Int) := by omega
              have ik1 : (m : Int) < (m : Int) + 1 := by omega
              have HL3 := Lib.hid (show w3'.ownsRow B 67 8 (.slice va m vcap) m cs by have := HL2.out; rwa [← hm] at this)
              have HN := Lib.hid (heap_alloc_new w3' (.cells #[.int .i64 0, .string ⟨#[]⟩, .int .u64 0, .int .u64 0, .int .u64 0, .int .u64 0, .slice none 0 0, .int .i64 0] 67))
              clear h4 hg4 hn4 hr4 e1 h5 LV4 hlo l1 hm
              repeat (first | go_values | go_skip | go_guarded | go_step | go_upon)
              go_cut [] from 66 to 74 (fun wx => PartF R g d L B w0 (ns ++ [n2]) (u3 :: l3) wx)
              case first =>
                go_region_law (refine step_append_lies _ (by rfl) _ _ _ (by rfl) B 67 i0 _ 8 88 Tryd.underlying65 iH iz is ib rfl (by omega) _ m cs (by rfl) ((HL3.out.alloc _).drew) ⟨w3'.heap.size, 0, none⟩ 1 1 [.int .i64 0, .string ⟨#[]⟩, .int .u64 0, .int .u64 0, .int .u64 0, .int .u64 0, .slice none 0 0, .int .i64 0] (by rfl) (by rfl) (World.news_of_block (cs := #[.int .i64 0, .string ⟨#[]⟩, .int .u64 0, .int .u64 0, .int .u64 0, .int .u64 0, .slice none 0 0, .int .i64 0]) (t := 67) (fr := (0, 0)) HN.out) (by simp [Value.oneCell']) (by omega) (by unfold maxLen; omega) (by omega) (by simp; omega) (w3'.heap.size + 1) (by simp) ?_; intro gg cap w4 hown4 hgrow hat hlt; obtain ⟨b0, b1, b2, b3, b4, b5, b6, b7, fz4⟩ := new8 hown4; obtain ⟨dL, fL, eL⟩ := low_cell HL3.out hgrow qL4 qLB HL1.out; have qLg : L < gg := Nat.lt_of_lt_of_le qLB (owns_block hown4).1; have hm3 := cell_set_lt)
                all_goals
                  have hfin := part_fin HM.out HLV4.out H4.out h0 G4.out hgrow hat HLO.out HBL.out HRR.out hown4 eL
                  clear b0 b1 b2 b3 b4 b5 b6 b7 fz4 dL fL eL hown4 hgrow hat
                  repeat (first | go_values | go_skip | go_guarded | go_step | go_upon)
                  refine Met.intro ?_
                  rename_i hJ
                  refine hJ _ _ ?_
                  (repeat apply Exists.intro)
                  refine ⟨?_, rfl⟩
                  first
                  | with_reducible exact hfin.1
                  | with_reducible exact hfin.2
              case rest =>
                obtain ⟨⟨v', cs', p1⟩, p2, p3⟩ := hcut
                repeat (first | go_values | go_skip | go_guarded | go_step | go_upon)
                go_ret
                exact ⟨f + 1, _, HPP.out, rfl, ⟨_, _, p1⟩, p2, p3, HE4.out, Nat.lt_of_le_of_lt hlen3 (Nat.lt_of_lt_of_le hlen hlen1)⟩
end Go.Proofs.YtlohpplpnddfaaaDoor
