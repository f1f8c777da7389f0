/- The walk of one. | The walk of one: where none comes; parentheses. | The contract of one. | A row's variable: the parts read so far; one part more. | What part keeps between its steps. -/
import Derived.Test.YtjlcoldnhbkcgaaGreatDoorG20
namespace Go.Proofs.YtjlcoldnhbkcgaaGreatDoor
open Go.RowKit Go.Sort

def zeroNd : Value := .agg #[.int .i64 0, .string ⟨#[]⟩, .int .u64 0, .int .u64 0, .int .u64 0, .int .u64 0, .slice none 0 0, .int .i64 0]
/-- What reading one, or a part, comes to. -/
def OneP (R g d len : Nat) (w : World) (e : Ending) (w' : World) : PR (Option Nd) → Prop
  | .err c x => PanF c x w e w' ∧ w.grownBy w' (some R)
  | .ok none rs => e = .returned (.tuple #[zeroNd, .bool false]) ∧ (∃ o c, SR R g o c d rs w') ∧ w.grownBy w' (some R) ∧ EndsT rs ∧ rs.length ≤ len
  | .ok (some n) rs => ∃ c, e = .returned (.tuple #[.agg c, .bool true]) ∧ Rep w' (Fresh w w') n c.toList ∧ (∃ o c, SR R g o c d rs w') ∧ w.grownBy w' (some R) ∧ EndsT rs ∧ rs.length < len
theorem cell_a2 (w : World) (a b : Obj) (j : Nat) : ((w.alloc a).alloc b).cell? ⟨w.heap.size, j, none⟩ = (w.alloc a).cell? ⟨w.heap.size, j, none⟩ := cell_alloc_lt _ _ _ _ (by simp)
theorem cell_a3 (w : World) (a b c : Obj) (j : Nat) : (((w.alloc a).alloc b).alloc c).cell? ⟨w.heap.size, j, none⟩ = (w.alloc a).cell? ⟨w.heap.size, j, none⟩ := (cell_alloc_lt _ _ _ _ (by simp; omega)).trans (cell_a2 w a b j)
theorem frozen_a2 (w : World) (a b : Obj) (j : Nat) : ((w.alloc a).alloc b).frozen? ⟨w.heap.size, j, none⟩ = (w.alloc a).frozen? ⟨w.heap.size, j, none⟩ := frozen_alloc_lt _ _ _ _ (by simp)
theorem frozen_a3 (w : World) (a b c : Obj) (j : Nat) : (((w.alloc a).alloc b).alloc c).frozen? ⟨w.heap.size, j, none⟩ = (w.alloc a).frozen? ⟨w.heap.size, j, none⟩ := (frozen_alloc_lt _ _ _ _ (by simp; omega)).trans (frozen_a2 w a b j)
/-- A leaf. -/
theorem rep_leaf (w : World) (P : Nat → Prop) (k : Nat) (t : List UInt8) (c : BitVec 256) (p : Nat) : Rep w P (.mk k t c [] p) (ndC k t c (.slice none 0 0) p) := .mk .nil
set_option maxRecDepth 100000 in
set_option maxHeartbeats 3200000 in
theorem one_leaf {R g o c d : Nat} {t u : Tok} {l : List Tok} {w : World} (h : SR R g o c d (t :: u :: l) w) (hE : EndsT (t :: u :: l)) (k : Nat) (hk : (t.kind = 3 ∧ k = 2) ∨ (t.kind = 4 ∧ k = 3)) :
    Calls Tryz.prog 117 #[.pointer (some ⟨R, 0, none⟩)] w (fun e w' => OneP R g d (t :: u :: l).length w e w' (.ok (some (.mk k t.text t.cls [] t.pos)) (u :: l))) := by
  obtain ⟨c0, c1, fz⟩ := h.cells
  obtain ⟨a0, a1, a2, a3, a4, a5, a6⟩ := h.head
  have HH := Lib.hid h
  have qR := h.ltR
  have qg := h.lt
  have qR1 : R < w.heap.size + 1 := by omega
  have qg1 : g < w.heap.size + 1 := by omega
  have qR2 : R < w.heap.size + 1 + 1 := by omega
  have HE := Lib.hid hE.2
  have hm1 := cell_alloc_lt
  have hm2 := frozen_alloc_lt
  have hm5 := cell_a3
  have hm6 := frozen_a3
  clear h hE
  dsimp only [List.length] at c0
  rcases hk with ⟨hk, rfl⟩ | ⟨hk, rfl⟩
  · rw [hk] at a0
    go_enter Tryz.func117, Tryz.ntmps117
    repeat (first | go_values | go_skip | go_guarded | go_step | go_upon)
    refine (snext_any (((HH.out.alloc _).alloc _).alloc _)).mono ?_
    rintro e w1 ⟨rfl, h1, g1⟩
    obtain ⟨hcB, hfB⟩ := gcell (b := w.heap.size) g1 (by simp; omega) (by omega)
    obtain ⟨hcN, hfN⟩ := gcell (b := w.heap.size + 1 + 1) g1 (by simp) (by omega)
    have H1 := Lib.hid h1
    have G1 := Lib.hid g1
    clear h1 g1
    dsimp only
    repeat (first | go_values | go_skip | go_guarded | go_step | go_upon)
    refine bodyPost_ret (v := .tuple #[.agg (ndC 2 t.text t.cls (.slice none 0 0) t.pos).toArray, .bool true]) (by simp [ndC, mkS, results, Tryz.results117, go_sem, hcB, cell_a3]) rfl ?_
    refine ⟨(ndC 2 t.text t.cls (.slice none 0 0) t.pos).toArray, rfl, rep_leaf _ _ _ _ _ _, ⟨o + 7, c - 1, ?_⟩, ?_, HE.out, by simp⟩
    · repeat (with_reducible refine SR.set ?_ (by omega) (by omega) _ _)
      exact H1.out
    · repeat (with_reducible refine gby_set ?_ (Nat.le_refl _) _ _)
      exact (below_gby _ (bal (bal (bal (Below.refl _ _) _) _) _)).trans G1.out
  · rw [hk] at a0
    go_enter Tryz.func117, Tryz.ntmps117
    repeat (first | go_values | go_skip | go_guarded | go_step | go_upon)
    refine (snext_any (((HH.out.alloc _).alloc _).alloc _)).mono ?_
    rintro e w1 ⟨rfl, h1, g1⟩
    obtain ⟨hcB, hfB⟩ := gcell (b := w.heap.size) g1 (by simp; omega) (by omega)
    obtain ⟨hcN, hfN⟩ := gcell (b := w.heap.size + 1 + 1) g1 (by simp) (by omega)
    have H1 := Lib.hid h1
    have G1 := Lib.hid g1
    clear h1 g1
    dsimp only
    repeat (first | go_values | go_skip | go_guarded | go_step | go_upon)
    refine bodyPost_ret (v := .tuple #[.agg (ndC 3 t.text t.cls (.slice none 0 0) t.pos).toArray, .bool true]) (by simp [ndC, mkS, results, Tryz.results117, go_sem, hcB, cell_a3]) rfl ?_
    refine ⟨(ndC 3 t.text t.cls (.slice none 0 0) t.pos).toArray, rfl, rep_leaf _ _ _ _ _ _, ⟨o + 7, c - 1, ?_⟩, ?_, HE.out, by simp⟩
    · repeat (with_reducible refine SR.set ?_ (by omega) (by omega) _ _)
      exact H1.out
    · repeat (with_reducible refine gby_set ?_ (Nat.le_refl _) _ _)
      exact (below_gby _ (bal (bal (bal (Below.refl _ _) _) _) _)).trans G1.out
set_option maxRecDepth 100000 in
set_option maxHeartbeats 3200000 in
theorem one_ref {R g o c d : Nat} {t u : Tok} {l : List Tok} {w : World} (h : SR R g o c d (t :: u :: l) w) (hE : EndsT (t :: u :: l)) (hk : t.kind = 1) (hu : u.kind ≠ 2) :
    Calls Tryz.prog 117 #[.pointer (some ⟨R, 0, none⟩)] w (fun e w' => OneP R g d (t :: u :: l).length w e w' (.ok (some (.mk 5 t.text t.cls [] t.pos)) (u :: l))) := by
  obtain ⟨c0, c1, fz⟩ := h.cells
  obtain ⟨a0, a1, a2, a3, a4, a5, a6⟩ := h.head
  have HH := Lib.hid h
  have qR := h.ltR
  have qg := h.lt
  have qR1 : R < w.heap.size + 1 := by omega
  have qg1 : g < w.heap.size + 1 := by omega
  have qR2 : R < w.heap.size + 1 + 1 := by omega
  have HE := Lib.hid hE.2
  have hm1 := cell_alloc_lt
  have hm2 := frozen_alloc_lt
  have hm5 := cell_a3
  have hm6 := frozen_a3
  clear h hE
  dsimp only [List.length] at c0
  have a7 := HH.out.toks 7 (.int .i64 (u.kind : Int)) rfl
  have m1 : ((u.kind : Int) == 2) = false := by simp; omega
  rw [hk] at a0
  clear hu
  go_enter Tryz.func117, Tryz.ntmps117
  repeat (first | go_values | go_skip | go_guarded | go_step | go_upon)
  refine (snext_any (((HH.out.alloc _).alloc _).alloc _)).mono ?_
  rintro e w1 ⟨rfl, h1, g1⟩
  obtain ⟨hcB, hfB⟩ := gcell (b := w.heap.size) g1 (by simp; omega) (by omega)
  obtain ⟨hcN, hfN⟩ := gcell (b := w.heap.size + 1 + 1) g1 (by simp) (by omega)
  have H1 := Lib.hid h1
  have G1 := Lib.hid g1
  clear h1 g1
  dsimp only
  repeat (first | go_values | go_skip | go_guarded | go_step | go_upon)
  refine bodyPost_ret (v := .tuple #[.agg (ndC 5 t.text t.cls (.slice none 0 0) t.pos).toArray, .bool true]) (by simp [ndC, mkS, results, Tryz.results117, go_sem, hcB, cell_a3]) rfl ?_
  refine ⟨(ndC 5 t.text t.cls (.slice none 0 0) t.pos).toArray, rfl, rep_leaf _ _ _ _ _ _, ⟨o + 7, c - 1, ?_⟩, ?_, HE.out, by simp⟩
  · repeat (with_reducible refine SR.set ?_ (by omega) (by omega) _ _)
    exact H1.out
  · repeat (with_reducible refine gby_set ?_ (Nat.le_refl _) _ _)
    exact (below_gby _ (bal (bal (bal (Below.refl _ _) _) _) _)).trans G1.out
set_option maxRecDepth 100000 in
set_option maxHeartbeats 3200000 in
theorem one_dot {R g o c d : Nat} {t u : Tok} {l : List Tok} {w : World} (h : SR R g o c d (t :: u :: l) w) (hE : EndsT (t :: u :: l)) (hk : t.kind = 5) (ht : t.text = [46]) :
    Calls Tryz.prog 117 #[.pointer (some ⟨R, 0, none⟩)] w (fun e w' => OneP R g d (t :: u :: l).length w e w' (.ok (some (.mk 4 [] t.cls [] t.pos)) (u :: l))) := by
  obtain ⟨c0, c1, fz⟩ := h.cells
  obtain ⟨a0, a1, a2, a3, a4, a5, a6⟩ := h.head
  have HH := Lib.hid h
  have qR := h.ltR
  have qg := h.lt
  have qR1 : R < w.heap.size + 1 := by omega
  have qg1 : g < w.heap.size + 1 := by omega
  have qR2 : R < w.heap.size + 1 + 1 := by omega
  have HE := Lib.hid hE.2
  have hm1 := cell_alloc_lt
  have hm2 := frozen_alloc_lt
  have hm5 := cell_a3
  have hm6 := frozen_a3
  clear h hE
  dsimp only [List.length] at c0
  rw [hk] at a0
  rw [ht] at a1
  have e46 : mkS [46] = ⟨#[46]⟩ := rfl
  rw [e46] at a1
  go_enter Tryz.func117, Tryz.ntmps117
  repeat (first | go_values | go_skip | go_guarded | go_step | go_upon)
  refine (snext_any (((HH.out.alloc _).alloc _).alloc _)).mono ?_
  rintro e w1 ⟨rfl, h1, g1⟩
  obtain ⟨hcB, hfB⟩ := gcell (b := w.heap.size) g1 (by simp; omega) (by omega)
  obtain ⟨hcN, hfN⟩ := gcell (b := w.heap.size + 1 + 1) g1 (by simp) (by omega)
  have H1 := Lib.hid h1
  have G1 := Lib.hid g1
  clear h1 g1
  dsimp only
  repeat (first | go_values | go_skip | go_guarded | go_step | go_upon)
  refine bodyPost_ret (v := .tuple #[.agg (ndC 4 [] t.cls (.slice none 0 0) t.pos).toArray, .bool true]) (by simp [ndC, mkS, results, Tryz.results117, go_sem, hcB, cell_a3]) rfl ?_
  refine ⟨(ndC 4 [] t.cls (.slice none 0 0) t.pos).toArray, rfl, rep_leaf _ _ _ _ _ _, ⟨o + 7, c - 1, ?_⟩, ?_, HE.out, by simp⟩
  · repeat (with_reducible refine SR.set ?_ (by omega) (by omega) _ _)
    exact H1.out
  · repeat (with_reducible refine gby_set ?_ (Nat.le_refl _) _ _)
    exact (below_gby _ (bal (bal (bal (Below.refl _ _) _) _) _)).trans G1.out
end Go.Proofs.YtjlcoldnhbkcgaaGreatDoor
namespace Go.Proofs.YtjlcoldnhbkcgaaGreatDoor
open Go.RowKit Go.Sort

set_option maxRecDepth 100000 in
set_option maxHeartbeats 3200000 in
theorem one_arrow {R g o c d : Nat} {t u : Tok} {l : List Tok} {w : World} (h : SR R g o c d (t :: u :: l) w) (hE : EndsT (t :: u :: l)) (hk : t.kind = 1) (hu : u.kind = 2) :
    Calls Tryz.prog 117 #[.pointer (some ⟨R, 0, none⟩)] w (fun e w' => OneP R g d (t :: u :: l).length w e w' (.ok none (t :: u :: l))) := by
  obtain ⟨c0, c1, fz⟩ := h.cells
  obtain ⟨a0, a1, a2, a3, a4, a5, a6⟩ := h.head
  have HH := Lib.hid h
  have qR := h.ltR
  have qg := h.lt
  have qR1 : R < w.heap.size + 1 := by omega
  have qg1 : g < w.heap.size + 1 := by omega
  have qR2 : R < w.heap.size + 1 + 1 := by omega
  have HE := Lib.hid hE
  have hm1 := cell_alloc_lt
  have hm2 := frozen_alloc_lt
  have hm5 := cell_a3
  have hm6 := frozen_a3
  clear h hE
  dsimp only [List.length] at c0
  have a7 := HH.out.toks 7 (.int .i64 (u.kind : Int)) rfl
  rw [hu] at a7
  rw [hk] at a0
  go_enter Tryz.func117, Tryz.ntmps117
  repeat (first | go_values | go_skip | go_guarded | go_step | go_upon)
  refine bodyPost_ret (v := .tuple #[zeroNd, .bool false]) (by simp [zeroNd, results, Tryz.results117, go_sem, hm1]) rfl ?_
  refine ⟨rfl, ⟨o, c, ?_⟩, ?_, HE.out, Nat.le_refl _⟩
  · repeat (with_reducible refine SR.set ?_ (by omega) (by omega) _ _)
    exact ((HH.out.alloc _).alloc _).alloc _
  · repeat (with_reducible refine gby_set ?_ (Nat.le_refl _) _ _)
    exact below_gby _ (bal (bal (bal (Below.refl _ _) _) _) _)
set_option maxRecDepth 100000 in
set_option maxHeartbeats 3200000 in
theorem one_nsign {R g o c d : Nat} {t : Tok} {rs : List Tok} {w : World} (h : SR R g o c d (t :: rs) w) (hE : EndsT (t :: rs)) (hk : t.kind = 5) (h46 : t.text ≠ [46]) (h40 : t.text ≠ [40]) :
    Calls Tryz.prog 117 #[.pointer (some ⟨R, 0, none⟩)] w (fun e w' => OneP R g d (t :: rs).length w e w' (.ok none (t :: rs))) := by
  obtain ⟨c0, c1, fz⟩ := h.cells
  obtain ⟨a0, a1, a2, a3, a4, a5, a6⟩ := h.head
  have HH := Lib.hid h
  have qR := h.ltR
  have qg := h.lt
  have qR1 : R < w.heap.size + 1 := by omega
  have qg1 : g < w.heap.size + 1 := by omega
  have qR2 : R < w.heap.size + 1 + 1 := by omega
  have HE := Lib.hid hE
  have hm1 := cell_alloc_lt
  have hm2 := frozen_alloc_lt
  have hm5 := cell_a3
  have hm6 := frozen_a3
  clear h hE
  dsimp only [List.length] at c0
  have s1 : ((mkS t.text).toList == [46]) = false := by rw [Go.ByteArray.toList_eq]; simpa [mkS] using h46
  have s2 : ((mkS t.text).toList == [40]) = false := by rw [Go.ByteArray.toList_eq]; simpa [mkS] using h40
  clear h46 h40
  rw [hk] at a0
  go_enter Tryz.func117, Tryz.ntmps117
  repeat (first | go_values | go_skip | go_guarded | go_step | go_upon)
  refine bodyPost_ret (v := .tuple #[zeroNd, .bool false]) (by simp [zeroNd, results, Tryz.results117, go_sem, hm1]) rfl ?_
  refine ⟨rfl, ⟨o, c, ?_⟩, ?_, HE.out, Nat.le_refl _⟩
  · repeat (with_reducible refine SR.set ?_ (by omega) (by omega) _ _)
    exact ((HH.out.alloc _).alloc _).alloc _
  · repeat (with_reducible refine gby_set ?_ (Nat.le_refl _) _ _)
    exact below_gby _ (bal (bal (bal (Below.refl _ _) _) _) _)
set_option maxRecDepth 100000 in
set_option maxHeartbeats 3200000 in
theorem one_other {R g o c d : Nat} {t : Tok} {rs : List Tok} {w : World} (h : SR R g o c d (t :: rs) w) (hE : EndsT (t :: rs)) (h1 : t.kind ≠ 1) (h3 : t.kind ≠ 3) (h4 : t.kind ≠ 4) (h5 : t.kind ≠ 5) :
    Calls Tryz.prog 117 #[.pointer (some ⟨R, 0, none⟩)] w (fun e w' => OneP R g d (t :: rs).length w e w' (.ok none (t :: rs))) := by
  obtain ⟨c0, c1, fz⟩ := h.cells
  obtain ⟨a0, a1, a2, a3, a4, a5, a6⟩ := h.head
  have HH := Lib.hid h
  have qR := h.ltR
  have qg := h.lt
  have qR1 : R < w.heap.size + 1 := by omega
  have qg1 : g < w.heap.size + 1 := by omega
  have qR2 : R < w.heap.size + 1 + 1 := by omega
  have HE := Lib.hid hE
  have hm1 := cell_alloc_lt
  have hm2 := frozen_alloc_lt
  have hm5 := cell_a3
  have hm6 := frozen_a3
  clear h hE
  dsimp only [List.length] at c0
  have m1 : ((t.kind : Int) == 1) = false := by simp; omega
  have m3 : ((t.kind : Int) == 3) = false := by simp; omega
  have m4 : ((t.kind : Int) == 4) = false := by simp; omega
  have m5 : ((t.kind : Int) == 5) = false := by simp; omega
  clear h1 h3 h4 h5
  go_enter Tryz.func117, Tryz.ntmps117
  repeat (first | go_values | go_skip | go_guarded | go_step | go_upon)
  refine bodyPost_ret (v := .tuple #[zeroNd, .bool false]) (by simp [zeroNd, results, Tryz.results117, go_sem, hm1]) rfl ?_
  refine ⟨rfl, ⟨o, c, ?_⟩, ?_, HE.out, Nat.le_refl _⟩
  · repeat (with_reducible refine SR.set ?_ (by omega) (by omega) _ _)
    exact ((HH.out.alloc _).alloc _).alloc _
  · repeat (with_reducible refine gby_set ?_ (Nat.le_refl _) _ _)
    exact below_gby _ (bal (bal (bal (Below.refl _ _) _) _) _)
/-- Blocks from one number up to another. -/
def Blk (lo hi b : Nat) : Prop := lo ≤ b ∧ b < hi
theorem Blk.lo {lo hi b : Nat} (h : Blk lo hi b) : lo ≤ b := h.1
theorem Blk.hi {lo hi b : Nat} (h : Blk lo hi b) : b < hi := h.2
theorem Fresh.blk {w w' : World} {lo : Nat} (h : lo = w.heap.size) {b : Nat} (hb : Fresh w w' b) : Blk lo w'.heap.size b := ⟨h ▸ hb.1, hb.2⟩
theorem Blk.fresh {w w' : World} {lo hi : Nat} (h1 : w.heap.size ≤ lo) (h2 : hi ≤ w'.heap.size) {b : Nat} (hb : Blk lo hi b) : Fresh w w' b := ⟨Nat.le_trans h1 hb.1, Nat.lt_of_lt_of_le hb.2 h2⟩
def someNd : PR Nd → PR (Option Nd)
  | .err c x => .err c x
  | .ok n rs => .ok (some n) rs
theorem pOne_paren {f d : Nat} {t : Tok} {rs : List Tok} {r : PR Nd} (hk : t.kind = 5) (ht : t.text = [40]) (h : (if d = 24 then some (.err 2 t.pos) else match pChoice f (d + 1) rs with
        | none => none
        | some (.err c x) => some (.err c x)
        | some (.ok n rs2) => if sgnOf rs2 = [41] then some (.ok n rs2.tail) else some (.err (badE rs2) (posT rs2))) = some r) : pOne (f + 1) d (t :: rs) = some (someNd r) := by
  rw [pOne, if_neg (by omega), if_neg (by omega), if_neg (by omega), if_neg (by rw [ht]; simp), if_pos ⟨hk, ht⟩]
  split at h
  · next h24 =>
    rw [if_pos h24]
    cases h
    rfl
  · next h24 =>
    rw [if_neg h24]
    split at h
    · cases h
    · next e => rw [e]; cases h; rfl
    · next e =>
      rw [e]
      simp only
      split at h
      · next hs => rw [if_pos hs]; cases h; rfl
      · next hs => rw [if_neg hs]; cases h; rfl
set_option maxRecDepth 100000 in
set_option maxHeartbeats 3200000 in
theorem one_paren {R g o c d : Nat} {t u : Tok} {l : List Tok} {w : World} (h : SR R g o c d (t :: u :: l) w) (hd : d ≤ 24) (hE : EndsT (t :: u :: l)) (hk : t.kind = 5) (ht : t.text = [40]) (IH : ChoiceC R g (u :: l)) :
    Calls Tryz.prog 117 #[.pointer (some ⟨R, 0, none⟩)] w (fun e w' => ∃ f r, pOne f d (t :: u :: l) = some r ∧ OneP R g d (t :: u :: l).length w e w' r) := by
  obtain ⟨c0, c1, fz⟩ := h.cells
  obtain ⟨a0, a1, a2, a3, a4, a5, a6⟩ := h.head
  have HH := Lib.hid h
  have qR := h.ltR
  have qg := h.lt
  have qR1 : R < w.heap.size + 1 := by omega
  have qg1 : g < w.heap.size + 1 := by omega
  have qR2 : R < w.heap.size + 1 + 1 := by omega
  have HE := Lib.hid hE
  have hm1 := cell_alloc_lt
  have hm2 := frozen_alloc_lt
  have hm5 := cell_a3
  have hm6 := frozen_a3
  clear h hE
  dsimp only [List.length] at c0
  have HI := Lib.hid IH
  have HT := Lib.hid ht
  have HK := Lib.hid hk
  clear IH
  rw [hk] at a0
  rw [ht] at a1
  have e40 : mkS [40] = ⟨#[40]⟩ := rfl
  rw [e40] at a1
  clear ht hk
  go_enter Tryz.func117, Tryz.ntmps117
  repeat (first | go_values | go_skip | go_guarded | go_step | go_upon)
  refine (within_any (((HH.out.alloc _).alloc _).alloc _) hd HE.out (by rw [HK.out]; decide) HI.out).mono ?_
  rintro e w1 ⟨f, r, hf, hr⟩
  have HP := Lib.hid (pOne_paren HK.out HT.out hf)
  clear hf
  cases r with
  | err ec ex =>
    obtain ⟨⟨p, rfl, hp, hl⟩, g1⟩ := hr
    dsimp only
    repeat (first | go_values | go_skip | go_guarded | go_step | go_upon)
    simp only [World.size_alloc] at hl
    exact ⟨rfl, f + 1, _, HP.out, ⟨p, rfl, hp, by omega⟩, (below_gby _ (bal (bal (bal (Below.refl _ _) _) _) _)).trans g1⟩
  | ok n rs2 =>
    obtain ⟨cc, rfl, hrep, ⟨o2, c2, h2⟩, g2, hE3, hlen⟩ := hr
    obtain ⟨k0, t0, x0, v0, l0, e1, e2, h3⟩ := hrep.form
    obtain ⟨sa, sn, sc, rfl⟩ := h3.slice
    obtain rfl : cc = (ndC k0 t0 x0 (.slice sa sn sc) n.pos).toArray := by rw [← e2]
    obtain ⟨hcB, hfB⟩ := gcell (b := w.heap.size) g2 (by simp; omega) (by omega)
    have z2 := g2.size
    simp only [World.size_alloc] at z2
    have H2 := Lib.hid h2
    have G2 := Lib.hid g2
    have HR := Lib.hid (rep_wide hrep (fun b h => h.blk (lo := w.heap.size + 1 + 1 + 1) (by simp)))
    have HE3 := Lib.hid hE3
    clear h2 g2 hrep e1 e2 h3 hE3
    dsimp only [ndC]
    repeat (first | go_values | go_skip | go_guarded | go_step | go_upon)
    refine bodyPost_ret (v := .tuple #[.agg (ndC k0 t0 x0 (.slice sa sn sc) n.pos).toArray, .bool true]) (by simp [ndC, results, Tryz.results117, go_sem, hcB, cell_a3]) rfl ?_
    refine ⟨f + 1, _, HP.out, (ndC k0 t0 x0 (.slice sa sn sc) n.pos).toArray, rfl, ?_, ⟨o2, c2, ?_⟩, ?_, HE3.out, by simp at hlen ⊢; omega⟩
    · refine rep_wide (P := Blk (w.heap.size + 1 + 1 + 1) w1.heap.size) ?_ (fun b h => h.fresh (by omega) (by simp))
      repeat (with_reducible refine rep_set ?_ (fun b h => by have := h.lo; omega) _ _)
      exact HR.out
    · repeat (with_reducible refine SR.set ?_ (by omega) (by omega) _ _)
      exact H2.out
    · repeat (with_reducible refine gby_set ?_ (Nat.le_refl _) _ _)
      exact (below_gby _ (bal (bal (bal (Below.refl _ _) _) _) _)).trans G2.out
end Go.Proofs.YtjlcoldnhbkcgaaGreatDoor
namespace Go.Proofs.YtjlcoldnhbkcgaaGreatDoor
open Go.RowKit Go.Sort

theorem one_full {R g o c d : Nat} {t : Tok} {rs : List Tok} {w : World} (h : SR R g o c d (t :: rs) w) (hd : d ≤ 24) (hE : EndsT (t :: rs)) (IH : ∀ l : List Tok, l.length < (t :: rs).length → ChoiceC R g l) :
    Calls Tryz.prog 117 #[.pointer (some ⟨R, 0, none⟩)] w (fun e w' => ∃ f r, pOne f d (t :: rs) = some r ∧ OneP R g d (t :: rs).length w e w' r) := by
  by_cases h1 : t.kind = 1
  · obtain ⟨u, l, rfl, _⟩ := hE.more (by omega)
    by_cases hu : u.kind = 2
    · exact (one_arrow h hE h1 hu).mono fun e w' hp => ⟨1, _, by rw [pOne, if_pos h1, if_pos (by exact hu)], hp⟩
    · exact (one_ref h hE h1 hu).mono fun e w' hp => ⟨1, _, by rw [pOne, if_pos h1, if_neg (by exact hu)], hp⟩
  by_cases h3 : t.kind = 3
  · obtain ⟨u, l, rfl, _⟩ := hE.more (by omega)
    exact (one_leaf h hE 2 (.inl ⟨h3, rfl⟩)).mono fun e w' hp => ⟨1, _, by rw [pOne, if_neg h1, if_pos h3], hp⟩
  by_cases h4 : t.kind = 4
  · obtain ⟨u, l, rfl, _⟩ := hE.more (by omega)
    exact (one_leaf h hE 3 (.inr ⟨h4, rfl⟩)).mono fun e w' hp => ⟨1, _, by rw [pOne, if_neg h1, if_neg h3, if_pos h4], hp⟩
  by_cases h5 : t.kind = 5
  · by_cases h46 : t.text = [46]
    · obtain ⟨u, l, rfl, _⟩ := hE.more (by omega)
      exact (one_dot h hE h5 h46).mono fun e w' hp => ⟨1, _, by rw [pOne, if_neg h1, if_neg h3, if_neg h4, if_pos ⟨h5, h46⟩], hp⟩
    by_cases h40 : t.text = [40]
    · obtain ⟨u, l, rfl, _⟩ := hE.more (by omega)
      exact one_paren h hd hE h5 h40 (IH _ (by simp))
    · exact (one_nsign h hE h5 h46 h40).mono fun e w' hp => ⟨1, _, by rw [pOne, if_neg h1, if_neg h3, if_neg h4, if_neg (fun hh => h46 hh.2), if_neg (fun hh => h40 hh.2)], hp⟩
  · exact (one_other h hE h1 h3 h4 h5).mono fun e w' hp => ⟨1, _, by rw [pOne, if_neg h1, if_neg h3, if_neg h4, if_neg (fun hh => h5 hh.1), if_neg (fun hh => h5 hh.1)], hp⟩
end Go.Proofs.YtjlcoldnhbkcgaaGreatDoor
namespace Go.Proofs.YtjlcoldnhbkcgaaGreatDoor
open Go.RowKit Go.Sort

theorem info_node : (Tryz.prog.info? 40).map (fun i => (i.zero, i.size, i.bytes)) = some (some (.agg #[.int .i64 0, .string ⟨#[]⟩, .int .u64 0, .int .u64 0, .int .u64 0, .int .u64 0, .slice none 0 0, .int .i64 0]), 8, 88) := by kernel_rfl
/-- What a row's variable holds: the parts read so far, in blocks of its own from a number on; the row's own block is none of the trees'. -/
structure LV (L B : Nat) (ns : List Nd) (v : Value) (cs : List Value) (w : World) : Prop where
  here : w.heap[L]? = some (.cells #[v] 38 (0, 0))
  own : w.ownsRow B 40 8 v ns.length cs
  reps : Reps w (fun b => B ≤ b ∧ b < w.heap.size ∧ v.ownBlock ≠ some b) ns cs
  lt : B = L + 1
  nil : ns = [] → v = .slice none 0 0
theorem LV.ltL {L B : Nat} {ns : List Nd} {v : Value} {cs : List Value} {w : World} (h : LV L B ns v cs w) : L < w.heap.size := (Array.getElem?_eq_some_iff.1 h.here).1
theorem LV.gby {L B R : Nat} {ns : List Nd} {v : Value} {cs : List Value} {w w' : World} (h : LV L B ns v cs w) (hg : w.grownBy w' (some R)) (hR : R < L) : LV L B ns v cs w' := by
  have hlt := h.lt
  refine ⟨(hg.block L h.ltL (fun e => by have := Option.some.inj e; omega)).trans h.here, h.own.kept hg ?_, ?_, hlt, h.nil⟩
  · cases hb : v.ownBlock with
    | none => left; rfl
    | some k => right; have := (h.own.lt k hb).1; simp; omega
  · exact Reps.mono (fun b hb => hg.block b hb.2.1 (fun e => by have := Option.some.inj e; have := hb.1; omega)) (fun b hb => ⟨hb.1, Nat.lt_of_lt_of_le hb.2.1 hg.size, hb.2.2⟩) h.reps
theorem LV.below {L B : Nat} {ns : List Nd} {v : Value} {cs : List Value} {w w' : World} (h : LV L B ns v cs w) (hb : Below w.heap.size w w') : LV L B ns v cs w' :=
  ⟨(hb.block L h.ltL).trans h.here, owns_below h.own hb, Reps.mono (fun b h => hb.block b h.2.1) (fun _ h => ⟨h.1, Nat.lt_of_lt_of_le h.2.1 hb.size, h.2.2⟩) h.reps, h.lt, h.nil⟩
theorem LV.alloc {L B : Nat} {ns : List Nd} {v : Value} {cs : List Value} {w : World} (h : LV L B ns v cs w) (o : Obj) : LV L B ns v cs (w.alloc o) := h.below (bal (Below.refl _ _) o)
def set8 (w : World) (g o : Nat) (u0 u1 u2 u3 u4 u5 u6 u7 : Value) : World := (((((((w.setCell ⟨g, o, none⟩ u0).setCell ⟨g, o + 1, none⟩ u1).setCell ⟨g, o + 2, none⟩ u2).setCell ⟨g, o + 3, none⟩ u3).setCell ⟨g, o + 4, none⟩ u4).setCell ⟨g, o + 5, none⟩ u5).setCell ⟨g, o + 6, none⟩ u6).setCell ⟨g, o + 7, none⟩ u7
theorem own_set8 {w : World} {B gg cap m n : Nat} {cs : List Value} {z0 z1 z2 z3 z4 z5 z6 z7 : Value} (hc : cs.length = m) (h : w.ownsRow B 40 8 (.slice (some ⟨gg, 0, none⟩) n cap) n (cs ++ [z0, z1, z2, z3, z4, z5, z6, z7])) (u0 u1 u2 u3 u4 u5 u6 u7 : Value) :
    (set8 w gg m u0 u1 u2 u3 u4 u5 u6 u7).ownsRow B 40 8 (.slice (some ⟨gg, 0, none⟩) n cap) n (cs ++ [u0, u1, u2, u3, u4, u5, u6, u7]) ∧ w.grownBy (set8 w gg m u0 u1 u2 u3 u4 u5 u6 u7) (some gg) := by
  subst hc
  have key : ∀ (l : List Value) (j : Nat) (u : Value), (cs ++ l).set (cs.length + j) u = cs ++ l.set j u := fun l j u => by
    rw [List.set_append_right _ _ (by omega), Nat.add_sub_cancel_left]
  obtain ⟨o0, g0⟩ := h.stored (cs.length + 0) u0
  rw [key] at o0
  obtain ⟨o1, g1⟩ := o0.stored (cs.length + 1) u1
  rw [key] at o1
  obtain ⟨o2, g2⟩ := o1.stored (cs.length + 2) u2
  rw [key] at o2
  obtain ⟨o3, g3⟩ := o2.stored (cs.length + 3) u3
  rw [key] at o3
  obtain ⟨o4, g4⟩ := o3.stored (cs.length + 4) u4
  rw [key] at o4
  obtain ⟨o5, g5⟩ := o4.stored (cs.length + 5) u5
  rw [key] at o5
  obtain ⟨o6, g6⟩ := o5.stored (cs.length + 6) u6
  rw [key] at o6
  obtain ⟨o7, g7⟩ := o6.stored (cs.length + 7) u7
  rw [key] at o7
  exact ⟨o7, g0.trans (g1.trans (g2.trans (g3.trans (g4.trans (g5.trans (g6.trans g7))))))⟩
/-- One part more: the world behind the append, the element and the variable set, in whatever order. -/
theorem LV.push {L B gg cap lo : Nat} {ns : List Nd} {n : Nd} {v : Value} {cs c : List Value} {o : Obj} {w w4 W : World} (h : LV L B ns v cs w) (hg : (w.alloc o).drew.grownBy w4 v.ownBlock) (hat : v.ownBlock = some gg ∨ gg = w.heap.size + 1)
    (hlo : ∀ k, v.ownBlock = some k → k < lo) (hBl : B ≤ lo) (hn : Rep w (Blk lo w.heap.size) n c)
    (hown : W.ownsRow B 40 8 (.slice (some ⟨gg, 0, none⟩) (ns.length + 1) cap) (ns.length + 1) (cs ++ c))
    (hL : W.heap[L]? = some (.cells #[.slice (some ⟨gg, 0, none⟩) (ns.length + 1) cap] 38 (0, 0)))
    (hW : ∀ b, b ≠ gg → b ≠ L → W.heap[b]? = w4.heap[b]?) (hs : w4.heap.size ≤ W.heap.size) : LV L B (ns ++ [n]) (.slice (some ⟨gg, 0, none⟩) (ns.length + 1) cap) (cs ++ c) W := by
  have hlt := h.lt
  have hz := hg.size
  simp at hz
  have key : ∀ b, B ≤ b → b < w.heap.size → v.ownBlock ≠ some b → b ≠ gg ∧ W.heap[b]? = w.heap[b]? := by
    intro b h1 h2 h3
    have hne : b ≠ gg := by
      rintro rfl
      rcases hat with e | e
      · exact h3 e
      · omega
    refine ⟨hne, ?_⟩
    rw [hW b hne (by omega), hg.block b (by simp; omega) (fun e => h3 e.symm)]
    show (w.alloc o).heap[b]? = _
    exact RowKit.Below.heap_alloc _ _ _ h2
  refine ⟨hL, by rw [List.length_append]; exact hown, ?_, hlt, fun e => by simp at e⟩
  refine Reps.snoc ?_ ?_
  · exact Reps.mono (fun b hb => (key b hb.1 hb.2.1 hb.2.2).2) (fun b hb => ⟨hb.1, by have := hb.2.1; omega, fun e => (key b hb.1 hb.2.1 hb.2.2).1 (Option.some.inj e).symm⟩) h.reps
  · have k2 : ∀ b, Blk lo w.heap.size b → v.ownBlock ≠ some b := fun b hb e => by have := hlo b e; have := hb.lo; omega
    exact Rep.mono (fun b hb => (key b (by have := hb.lo; omega) hb.hi (k2 b hb)).2) (fun b hb => ⟨by have := hb.lo; omega, by have := hb.hi; omega, fun e => (key b (by have := hb.lo; omega) hb.hi (k2 b hb)).1 (Option.some.inj e).symm⟩) hn
theorem SR.row {R g o c d : Nat} {rs : List Tok} {w w' : World} {row : Option Nat} (h : SR R g o c d rs w) (hg : w.grownBy w' row) (h1 : row ≠ some R) (h2 : row ≠ some g) : SR R g o c d rs w' :=
  ⟨(hg.block R h.ltR (fun e => h1 e.symm)).trans h.here, h.toks.keep (hg.block g h.lt (fun e => h2 e.symm)), Nat.lt_of_lt_of_le h.lt hg.size, h.ne, h.cap⟩
theorem SR.drew {R g o c d : Nat} {rs : List Tok} {w : World} (h : SR R g o c d rs w) : SR R g o c d rs w.drew := h.below (drew_below w)
theorem gby_row {w w1 w2 : World} {r row : Option Nat} (h : w.grownBy w1 r) (hg : w1.grownBy w2 row) (hr : ∀ k, row = some k → w.heap.size ≤ k) : w.grownBy w2 r :=
  ⟨hg.os.trans h.os, hg.tape.trans h.tape, hg.output.trans h.output, Nat.le_trans h.size hg.size, fun k hk hne => (hg.block k (Nat.lt_of_lt_of_le hk h.size) (fun e => by have := hr k e.symm; omega)).trans (h.block k hk hne)⟩
theorem SR.set8 {R g o c d k i : Nat} {rs : List Tok} {w : World} (h : SR R g o c d rs w) (h1 : k ≠ R) (h2 : k ≠ g) (u0 u1 u2 u3 u4 u5 u6 u7 : Value) : SR R g o c d rs (set8 w k i u0 u1 u2 u3 u4 u5 u6 u7) :=
  (((((((h.set h1 h2 _ u0).set h1 h2 _ u1).set h1 h2 _ u2).set h1 h2 _ u3).set h1 h2 _ u4).set h1 h2 _ u5).set h1 h2 _ u6).set h1 h2 _ u7
theorem gby_set8 {w w1 : World} {r : Option Nat} (h : w.grownBy w1 r) {k : Nat} (hk : w.heap.size ≤ k) (i : Nat) (u0 u1 u2 u3 u4 u5 u6 u7 : Value) : w.grownBy (set8 w1 k i u0 u1 u2 u3 u4 u5 u6 u7) r :=
  gby_set (gby_set (gby_set (gby_set (gby_set (gby_set (gby_set (gby_set h hk _ u0) hk _ u1) hk _ u2) hk _ u3) hk _ u4) hk _ u5) hk _ u6) hk _ u7
theorem set8_heap (w : World) (g o b : Nat) (u0 u1 u2 u3 u4 u5 u6 u7 : Value) (hb : b ≠ g) : (set8 w g o u0 u1 u2 u3 u4 u5 u6 u7).heap[b]? = w.heap[b]? := by
  unfold set8
  rw [heap_setCell_other _ _ _ _ hb, heap_setCell_other _ _ _ _ hb, heap_setCell_other _ _ _ _ hb, heap_setCell_other _ _ _ _ hb, heap_setCell_other _ _ _ _ hb, heap_setCell_other _ _ _ _ hb, heap_setCell_other _ _ _ _ hb, heap_setCell_other _ _ _ _ hb]
theorem set8_size (w : World) (g o : Nat) (u0 u1 u2 u3 u4 u5 u6 u7 : Value) : (set8 w g o u0 u1 u2 u3 u4 u5 u6 u7).heap.size = w.heap.size := by
  unfold set8; simp
/-- The two worlds behind '*l = append(*l, n)'. -/
theorem part_end {L B gg cap lo R g o c d i : Nat} {rs : List Tok} {ns : List Nd} {n : Nd} {v : Value} {cs : List Value} {u0 u1 u2 u3 u4 u5 u6 u7 z0 z1 z2 z3 z4 z5 z6 z7 : Value} {x : Obj} {w0 w w4 : World} (h : LV L B ns v cs w) (hs : SR R g o c d rs w) (h0 : R < w0.heap.size ∧ g < w0.heap.size ∧ w0.heap.size ≤ L) (hg0 : w0.grownBy w (some R)) (hg : (w.alloc x).drew.grownBy w4 v.ownBlock) (hat : v.ownBlock = some gg ∨ gg = w.heap.size + 1)
    (hlo : ∀ k, v.ownBlock = some k → k < lo) (hBl : B ≤ lo) (hn : Rep w (Blk lo w.heap.size) n [u0, u1, u2, u3, u4, u5, u6, u7]) (hi : cs.length = i)
    (hown : w4.ownsRow B 40 8 (.slice (some ⟨gg, 0, none⟩) (ns.length + 1) cap) (ns.length + 1) (cs ++ [z0, z1, z2, z3, z4, z5, z6, z7]))
    (hL : w4.heap[L]? = some (.cells #[v] 38 (0, 0))) :
    (let W := (set8 w4 gg i u0 u1 u2 u3 u4 u5 u6 u7).setCell ⟨L, 0, none⟩ (.slice (some ⟨gg, 0, none⟩) (ns.length + 1) cap)
     LV L B (ns ++ [n]) (.slice (some ⟨gg, 0, none⟩) (ns.length + 1) cap) (cs ++ [u0, u1, u2, u3, u4, u5, u6, u7]) W ∧ SR R g o c d rs W ∧ w0.grownBy W (some R)) ∧
    (let W := set8 (w4.setCell ⟨L, 0, none⟩ (.slice (some ⟨gg, 0, none⟩) (ns.length + 1) cap)) gg i u0 u1 u2 u3 u4 u5 u6 u7
     LV L B (ns ++ [n]) (.slice (some ⟨gg, 0, none⟩) (ns.length + 1) cap) (cs ++ [u0, u1, u2, u3, u4, u5, u6, u7]) W ∧ SR R g o c d rs W ∧ w0.grownBy W (some R)) := by
  have hlt := h.lt
  have hBg := (owns_block hown).1
  have hne : gg ≠ L := by omega
  have s4 : SR R g o c d rs w4 := (hs.alloc x).drew.row hg (fun e => by have := (h.own.lt R e).1; omega) (fun e => by have := (h.own.lt g e).1; omega)
  have g4 : w0.grownBy w4 (some R) := gby_row (gby_below (gby_alloc hg0 x) (drew_below _)) hg (fun k hk => by have := (h.own.lt k hk).1; omega)
  have kL : ∀ (w' : World) (s : Value), w'.grownBy (w'.setCell ⟨L, 0, none⟩ s) (some L) := fun w' s => gsetk w' ⟨L, 0, none⟩ s
  have keepL : ∀ (w' : World) (s : Value) (xs : List Value), w'.ownsRow B 40 8 (.slice (some ⟨gg, 0, none⟩) (ns.length + 1) cap) (ns.length + 1) xs → (w'.setCell ⟨L, 0, none⟩ s).ownsRow B 40 8 (.slice (some ⟨gg, 0, none⟩) (ns.length + 1) cap) (ns.length + 1) xs := fun w' s xs hh => hh.kept (kL w' s) (by right; intro e; exact hne (Option.some.inj e))
  refine ⟨⟨?_, ?_, ?_⟩, ⟨?_, ?_, ?_⟩⟩
  · refine h.push hg hat hlo hBl hn (keepL _ _ _ (own_set8 hi hown _ _ _ _ _ _ _ _).1) ?_ (fun b h1 h2 => (heap_setCell_other _ _ b _ h2).trans (set8_heap _ _ _ b _ _ _ _ _ _ _ _ h1)) (by simp [set8_size])
    exact heap_setCell_same _ L 0 _ _ _ ((set8_heap _ _ _ L _ _ _ _ _ _ _ _ hne.symm).trans hL)
  · exact (s4.set8 (by omega) (by omega) _ _ _ _ _ _ _ _).set (by omega) (by omega) _ _
  · exact gby_set (gby_set8 g4 (by omega) _ _ _ _ _ _ _ _ _) (by omega) _ _
  · refine h.push hg hat hlo hBl hn (own_set8 hi (keepL _ _ _ hown) _ _ _ _ _ _ _ _).1 ?_ (fun b h1 h2 => (set8_heap _ _ _ b _ _ _ _ _ _ _ _ h1).trans (heap_setCell_other _ _ b _ h2)) (by simp [set8_size])
    exact (set8_heap _ _ _ L _ _ _ _ _ _ _ _ hne.symm).trans (heap_setCell_same _ L 0 _ _ _ hL)
  · exact (s4.set (by omega) (by omega) _ _).set8 (by omega) (by omega) _ _ _ _ _ _ _ _
  · exact gby_set8 (gby_set g4 (by omega) _ _) (by omega) _ _ _ _ _ _ _ _ _
end Go.Proofs.YtjlcoldnhbkcgaaGreatDoor
namespace Go.Proofs.YtjlcoldnhbkcgaaGreatDoor
open Go.RowKit Go.Sort

theorem new8 {w : World} {B gg cap m : Nat} {cs : List Value} (h : w.ownsRow B 40 8 (.slice (some ⟨gg, 0, none⟩) (m + 1) cap) (m + 1) (cs ++ [.int .i64 0, .string ⟨#[]⟩, .int .u64 0, .int .u64 0, .int .u64 0, .int .u64 0, .slice none 0 0, .int .i64 0])) :
    w.cell? ⟨gg, m * 8, none⟩ = some (.int .i64 0) ∧ w.cell? ⟨gg, m * 8 + 1, none⟩ = some (.string ⟨#[]⟩) ∧ w.cell? ⟨gg, m * 8 + 2, none⟩ = some (.int .u64 0) ∧ w.cell? ⟨gg, m * 8 + 3, none⟩ = some (.int .u64 0) ∧ w.cell? ⟨gg, m * 8 + 4, none⟩ = some (.int .u64 0) ∧ w.cell? ⟨gg, m * 8 + 5, none⟩ = some (.int .u64 0) ∧ w.cell? ⟨gg, m * 8 + 6, none⟩ = some (.slice none 0 0) ∧ w.cell? ⟨gg, m * 8 + 7, none⟩ = some (.int .i64 0) ∧ ∀ j, w.frozen? ⟨gg, j, none⟩ = false := by
  have hl := h.1
  simp at hl
  have hc : cs.length = m * 8 := by omega
  have key : ∀ j, j < 8 → w.cell? ⟨gg, m * 8 + j, none⟩ = ([.int .i64 0, .string ⟨#[]⟩, .int .u64 0, .int .u64 0, .int .u64 0, .int .u64 0, .slice none 0 0, .int .i64 0] : List Value)[j]? := fun j hj => by
    rw [h.cellAt _ (by omega), List.getElem?_append_right (by omega), hc, Nat.add_sub_cancel_left]
  exact ⟨key 0 (by decide), key 1 (by decide), key 2 (by decide), key 3 (by decide), key 4 (by decide), key 5 (by decide), key 6 (by decide), key 7 (by decide), h.frozenAt⟩
/-- A variable below the rows, behind an append. -/
theorem low_cell {w w' : World} {L B : Nat} {v : Value} {n : Nat} {cs : List Value} {o : Obj} {x : Value} (hv : w.ownsRow B 40 8 v n cs) (hg : (w.alloc o).drew.grownBy w' v.ownBlock) (hL : L < w.heap.size) (hB : L < B) (hx : w.heap[L]? = some (.cells #[x] 38 (0, 0))) : w'.cell? ⟨L, 0, none⟩ = some x ∧ (∀ j, w'.frozen? ⟨L, j, none⟩ = false) ∧ w'.heap[L]? = some (.cells #[x] 38 (0, 0)) := by
  have e : w'.heap[L]? = some (.cells #[x] 38 (0, 0)) := by
    rw [hg.block L (by simp; omega) (fun e => by have := (hv.lt L e.symm).1; omega)]
    show (w.alloc o).heap[L]? = _
    rw [RowKit.Below.heap_alloc _ _ _ hL, hx]
  exact ⟨(cells_at e).1 0, (cells_at e).2.1, e⟩
/-- What reading a part comes to. -/
def PartP (R g d len L B : Nat) (w0 : World) (ns : List Nd) (e : Ending) (w' : World) : PR (Option Nd) → Prop
  | .err c x => PanF c x w0 e w' ∧ w0.grownBy w' (some R)
  | .ok none rs => e = .returned (.bool false) ∧ (∃ v cs, LV L B ns v cs w') ∧ (∃ o c, SR R g o c d rs w') ∧ w0.grownBy w' (some R) ∧ EndsT rs ∧ rs.length ≤ len
  | .ok (some n) rs => e = .returned (.bool true) ∧ (∃ v cs, LV L B (ns ++ [n]) v cs w') ∧ (∃ o c, SR R g o c d rs w') ∧ w0.grownBy w' (some R) ∧ EndsT rs ∧ rs.length < len
/-- The state of part: the reader; the token that came first, in its block T. -/
structure P1 (R g d T : Nat) (wS : World) (t : Tok) (rs : List Tok) (w : World) : Prop where
  rd : ∃ o c, SR R g o c d rs w
  grow : wS.grownBy w (some R)
  tok : w.heap[T]? = some (.cells (tokC t).toArray 96 (0, 0))
theorem P1.ltT {R g d T : Nat} {wS : World} {t : Tok} {rs : List Tok} {w : World} (h : P1 R g d T wS t rs w) : T < w.heap.size := (Array.getElem?_eq_some_iff.1 h.tok).1
theorem P1.turn {R g d T : Nat} {wS : World} {t : Tok} {rs rs2 : List Tok} {w w' : World} (h : P1 R g d T wS t rs w) (hT : R < T) (hg : w.grownBy w' (some R)) (hs : ∃ o c, SR R g o c d rs2 w') : P1 R g d T wS t rs2 w' :=
  ⟨hs, h.grow.trans hg, (hg.block T h.ltT (fun e => by have := Option.some.inj e; omega)).trans h.tok⟩
theorem P1.below {R g d T : Nat} {wS : World} {t : Tok} {rs : List Tok} {w w' : World} (h : P1 R g d T wS t rs w) (hT : R < T) (hb : Below w.heap.size w w') : P1 R g d T wS t rs w' := by
  obtain ⟨o, c, hs⟩ := h.rd
  exact h.turn hT (below_gby _ hb) ⟨o, c, hs.below hb⟩
theorem P1.alloc {R g d T : Nat} {wS : World} {t : Tok} {rs : List Tok} {w : World} (h : P1 R g d T wS t rs w) (hT : R < T) (x : Obj) : P1 R g d T wS t rs (w.alloc x) := h.below hT (bal (Below.refl _ _) x)
theorem P1.set {R g d T N : Nat} {wS : World} {t : Tok} {rs : List Tok} {w : World} (h : P1 R g d T wS t rs w) (hR : R < T) (hg : g < T) (hS : wS.heap.size ≤ T) (hN : T < N) (i : Nat) (u : Value) : P1 R g d T wS t rs (w.setCell ⟨N, i, none⟩ u) := by
  obtain ⟨o, c, hs⟩ := h.rd
  exact ⟨⟨o, c, hs.set (by omega) (by omega) i u⟩, gby_set h.grow (by omega) i u, (heap_setCell_other w ⟨N, i, none⟩ T u (fun e => by have e2 : T = N := e; omega)).trans h.tok⟩
/-- Blocks from one number up to another, but for one. -/
def BlkN (lo hi N b : Nat) : Prop := lo ≤ b ∧ b < hi ∧ b ≠ N
/-- .. and the node in its block N. -/
structure PS (R g d T N : Nat) (wS : World) (t : Tok) (rs : List Tok) (n : Nd) (w : World) : Prop where
  p1 : P1 R g d T wS t rs w
  node : ∃ c : List Value, w.heap[N]? = some (.cells c.toArray 40 (0, 0)) ∧ Rep w (BlkN T w.heap.size N) n c
  lt : T < N
theorem PS.ltN {R g d T N : Nat} {wS : World} {t : Tok} {rs : List Tok} {n : Nd} {w : World} (h : PS R g d T N wS t rs n w) : N < w.heap.size := by
  obtain ⟨c, h1, _⟩ := h.node
  exact (Array.getElem?_eq_some_iff.1 h1).1
theorem PS.turn {R g d T N : Nat} {wS : World} {t : Tok} {rs rs2 : List Tok} {n : Nd} {w w' : World} (h : PS R g d T N wS t rs n w) (hT : R < T) (hg : w.grownBy w' (some R)) (hs : ∃ o c, SR R g o c d rs2 w') : PS R g d T N wS t rs2 n w' := by
  obtain ⟨c, h1, h2⟩ := h.node
  have hlt := h.lt
  refine ⟨h.p1.turn hT hg hs, ⟨c, (hg.block N h.ltN (fun e => by have := Option.some.inj e; omega)).trans h1, ?_⟩, h.lt⟩
  exact Rep.mono (fun b hb => hg.block b hb.2.1 (fun e => by have := Option.some.inj e; have := hb.1; omega)) (fun b hb => ⟨hb.1, Nat.lt_of_lt_of_le hb.2.1 hg.size, hb.2.2⟩) h2
theorem PS.below {R g d T N : Nat} {wS : World} {t : Tok} {rs : List Tok} {n : Nd} {w w' : World} (h : PS R g d T N wS t rs n w) (hT : R < T) (hb : Below w.heap.size w w') : PS R g d T N wS t rs n w' := by
  obtain ⟨o, c, hs⟩ := h.p1.rd
  exact h.turn hT (below_gby _ hb) ⟨o, c, hs.below hb⟩
/-- The node is wrapped: the node's variable is set, a block with the elder node alone is made. -/
theorem PS.wrap {R g d T N : Nat} {wS : World} {t : Tok} {rs : List Tok} {n : Nd} {w : World} {c0 c1 c2 c3 c4 c5 c6 c7 : Value} (h : P1 R g d T wS t rs w) (hR : R < T) (hg : g < T) (hS : wS.heap.size ≤ T) (hN : T < N) (hn : w.heap[N]? = some (.cells #[c0, c1, c2, c3, c4, c5, c6, c7] 40 (0, 0))) (hr : Rep w (BlkN T w.heap.size N) n [c0, c1, c2, c3, c4, c5, c6, c7]) (k p : Nat) :
    PS R g d T N wS t rs (.mk k [] 0 [n] p) (((((((((w.setCell ⟨N, 0, none⟩ (.int .i64 (k : Int))).setCell ⟨N, 1, none⟩ (.string ⟨#[]⟩)).setCell ⟨N, 2, none⟩ (.int .u64 0)).setCell ⟨N, 3, none⟩ (.int .u64 0)).setCell ⟨N, 4, none⟩ (.int .u64 0)).setCell ⟨N, 5, none⟩ (.int .u64 0)).setCell ⟨N, 6, none⟩ (.slice (some ⟨w.heap.size, 0, none⟩) 1 1)).setCell ⟨N, 7, none⟩ (.int .i64 (p : Int))).alloc (.cells #[c0, c1, c2, c3, c4, c5, c6, c7] 40)) := by
  have hlt : N < w.heap.size := (Array.getElem?_eq_some_iff.1 hn).1
  have n1 := heap_setCell_same _ N 0 _ _ (.int .i64 (k : Int)) hn
  have n2 := heap_setCell_same _ N 1 _ _ (.string ⟨#[]⟩) n1
  have n3 := heap_setCell_same _ N 2 _ _ (.int .u64 0) n2
  have n4 := heap_setCell_same _ N 3 _ _ (.int .u64 0) n3
  have n5 := heap_setCell_same _ N 4 _ _ (.int .u64 0) n4
  have n6 := heap_setCell_same _ N 5 _ _ (.int .u64 0) n5
  have n7 := heap_setCell_same _ N 6 _ _ (.slice (some ⟨w.heap.size, 0, none⟩) 1 1) n6
  have n8 := heap_setCell_same _ N 7 _ _ (.int .i64 (p : Int)) n7
  have h8 := (((((((h.set hR hg hS hN 0 (.int .i64 (k : Int))).set hR hg hS hN 1 (.string ⟨#[]⟩)).set hR hg hS hN 2 (.int .u64 0)).set hR hg hS hN 3 (.int .u64 0)).set hR hg hS hN 4 (.int .u64 0)).set hR hg hS hN 5 (.int .u64 0)).set hR hg hS hN 6 (.slice (some ⟨w.heap.size, 0, none⟩) 1 1)).set hR hg hS hN 7 (.int .i64 (p : Int))
  have keep : ∀ b, b ≠ N → (((((((((w.setCell ⟨N, 0, none⟩ (.int .i64 (k : Int))).setCell ⟨N, 1, none⟩ (.string ⟨#[]⟩)).setCell ⟨N, 2, none⟩ (.int .u64 0)).setCell ⟨N, 3, none⟩ (.int .u64 0)).setCell ⟨N, 4, none⟩ (.int .u64 0)).setCell ⟨N, 5, none⟩ (.int .u64 0)).setCell ⟨N, 6, none⟩ (.slice (some ⟨w.heap.size, 0, none⟩) 1 1)).setCell ⟨N, 7, none⟩ (.int .i64 (p : Int)))).heap[b]? = w.heap[b]? := fun b hne => by
    rw [heap_setCell_other _ _ _ _ hne, heap_setCell_other _ _ _ _ hne, heap_setCell_other _ _ _ _ hne, heap_setCell_other _ _ _ _ hne, heap_setCell_other _ _ _ _ hne, heap_setCell_other _ _ _ _ hne, heap_setCell_other _ _ _ _ hne, heap_setCell_other _ _ _ _ hne]
  have hsz : (((((((((w.setCell ⟨N, 0, none⟩ (.int .i64 (k : Int))).setCell ⟨N, 1, none⟩ (.string ⟨#[]⟩)).setCell ⟨N, 2, none⟩ (.int .u64 0)).setCell ⟨N, 3, none⟩ (.int .u64 0)).setCell ⟨N, 4, none⟩ (.int .u64 0)).setCell ⟨N, 5, none⟩ (.int .u64 0)).setCell ⟨N, 6, none⟩ (.slice (some ⟨w.heap.size, 0, none⟩) 1 1)).setCell ⟨N, 7, none⟩ (.int .i64 (p : Int)))).heap.size = w.heap.size := by simp
  revert n8 h8 keep hsz
  generalize (((((((((w.setCell ⟨N, 0, none⟩ (.int .i64 (k : Int))).setCell ⟨N, 1, none⟩ (.string ⟨#[]⟩)).setCell ⟨N, 2, none⟩ (.int .u64 0)).setCell ⟨N, 3, none⟩ (.int .u64 0)).setCell ⟨N, 4, none⟩ (.int .u64 0)).setCell ⟨N, 5, none⟩ (.int .u64 0)).setCell ⟨N, 6, none⟩ (.slice (some ⟨w.heap.size, 0, none⟩) 1 1)).setCell ⟨N, 7, none⟩ (.int .i64 (p : Int)))) = W
  intro n8 h8 keep hsz
  refine ⟨h8.alloc hR _, ⟨ndC k [] 0 (.slice (some ⟨w.heap.size, 0, none⟩) 1 1) p, ?_, ?_⟩, hN⟩
  · refine (RowKit.Below.heap_alloc _ _ _ (by omega)).trans (n8.trans ?_)
    simp [ndC, mkS, wd_zero]
  · refine .mk (.row (l := [n]) (g := w.heap.size) (cap := 1) (cur := #[c0, c1, c2, c3, c4, c5, c6, c7]) ⟨by omega, by rw [World.size_alloc]; omega, by omega⟩ ?_ (by simp) (by simp) (by unfold maxLen; simp) rfl ?_)
    · rw [← hsz]
      exact heap_alloc_new _ _
    · refine .cons (c := [c0, c1, c2, c3, c4, c5, c6, c7]) (cs := []) ?_ .nil
      refine Rep.mono (fun b hb => ?_) (fun b hb => ⟨hb.1, by have := hb.2.1; rw [World.size_alloc]; omega, hb.2.2⟩) hr
      rw [← keep b hb.2.2]
      exact RowKit.Below.heap_alloc _ _ _ (by have := hb.2.1; omega)
/-- What a row's part leaves. -/
def PartF (R g d L B : Nat) (w0 : World) (ns : List Nd) (rs : List Tok) (w : World) : Prop := (∃ v cs, LV L B ns v cs w) ∧ (∃ o c, SR R g o c d rs w) ∧ w0.grownBy w (some R)
/-- The two worlds behind '*l = append(*l, n)'. -/
theorem part_fin {L B gg cap lo R g o c d m : Nat} {rs : List Tok} {ns : List Nd} {n : Nd} {v : Value} {cs : List Value} {u0 u1 u2 u3 u4 u5 u6 u7 z0 z1 z2 z3 z4 z5 z6 z7 : Value} {x : Obj} {w0 w w4 : World} (hm : m = ns.length) (h : LV L B ns v cs w) (hs : SR R g o c d rs w) (h0 : R < w0.heap.size ∧ g < w0.heap.size ∧ w0.heap.size ≤ L) (hg0 : w0.grownBy w (some R)) (hg : (w.alloc x).drew.grownBy w4 v.ownBlock) (hat : v.ownBlock = some gg ∨ gg = w.heap.size + 1)
    (hlo : ∀ k, v.ownBlock = some k → k < lo) (hBl : B ≤ lo) (hn : Rep w (Blk lo w.heap.size) n [u0, u1, u2, u3, u4, u5, u6, u7])
    (hown : w4.ownsRow B 40 8 (.slice (some ⟨gg, 0, none⟩) (m + 1) cap) (m + 1) (cs ++ [z0, z1, z2, z3, z4, z5, z6, z7]))
    (hL : w4.heap[L]? = some (.cells #[v] 38 (0, 0))) :
    PartF R g d L B w0 (ns ++ [n]) rs (((((((((w4.setCell ⟨gg, m * 8, none⟩ u0).setCell ⟨gg, m * 8 + 1, none⟩ u1).setCell ⟨gg, m * 8 + 2, none⟩ u2).setCell ⟨gg, m * 8 + 3, none⟩ u3).setCell ⟨gg, m * 8 + 4, none⟩ u4).setCell ⟨gg, m * 8 + 5, none⟩ u5).setCell ⟨gg, m * 8 + 6, none⟩ u6).setCell ⟨gg, m * 8 + 7, none⟩ u7).setCell ⟨L, 0, none⟩ (.slice (some ⟨gg, 0, none⟩) (m + 1) cap)) ∧ PartF R g d L B w0 (ns ++ [n]) rs (((((((((w4.setCell ⟨L, 0, none⟩ (.slice (some ⟨gg, 0, none⟩) (m + 1) cap)).setCell ⟨gg, m * 8, none⟩ u0).setCell ⟨gg, m * 8 + 1, none⟩ u1).setCell ⟨gg, m * 8 + 2, none⟩ u2).setCell ⟨gg, m * 8 + 3, none⟩ u3).setCell ⟨gg, m * 8 + 4, none⟩ u4).setCell ⟨gg, m * 8 + 5, none⟩ u5).setCell ⟨gg, m * 8 + 6, none⟩ u6).setCell ⟨gg, m * 8 + 7, none⟩ u7) := by
  subst hm
  have hi : cs.length = ns.length * 8 := h.own.1
  obtain ⟨⟨p1, p2, p3⟩, ⟨y1, y2, y3⟩⟩ := part_end h hs h0 hg0 hg hat hlo hBl hn hi hown hL
  exact ⟨⟨⟨_, _, p1⟩, ⟨_, _, p2⟩, p3⟩, ⟨⟨_, _, y1⟩, ⟨_, _, y2⟩, y3⟩⟩
end Go.Proofs.YtjlcoldnhbkcgaaGreatDoor
