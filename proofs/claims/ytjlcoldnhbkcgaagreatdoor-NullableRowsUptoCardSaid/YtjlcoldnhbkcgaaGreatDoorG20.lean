/- The reader of tokens: what it holds; its methods stop, wrong, next, must, sign. | Reading tokens as a grammar: plain; how a tree lies in memory. | The walks of joined, one. | The walks of within. -/
import Derived.Test.YtjlcoldnhbkcgaaGreatDoorG19
import Derived.Defers
import Derived.Recover
namespace Go.Proofs.YtjlcoldnhbkcgaaGreatDoor
open Go.RowKit Go.Sort

/-- From a place on stand these tokens. -/
def TR (g o : Nat) (rs : List Tok) (w : World) : Prop := ∀ j u, (tokCells rs)[j]? = some u → w.cell? ⟨g, o + j, none⟩ = some u
/-- A reader at R: the tokens that are left (in the block g, from o on), the depth. -/
structure SR (R g o c d : Nat) (rs : List Tok) (w : World) : Prop where
  here : w.heap[R]? = some (.cells #[.slice (some ⟨g, o, none⟩) rs.length c, .int .i64 (d : Int)] 94 (0, 0))
  toks : TR g o rs w
  lt : g < w.heap.size
  ne : g ≠ R
  cap : rs.length ≤ c
theorem SR.ltR {R g o c d : Nat} {rs : List Tok} {w : World} (h : SR R g o c d rs w) : R < w.heap.size := (Array.getElem?_eq_some_iff.1 h.here).1
theorem TR.keep {g o : Nat} {rs : List Tok} {w w' : World} (h : TR g o rs w) (hb : w'.heap[g]? = w.heap[g]?) : TR g o rs w' := fun j u hj => (World.cell?_of_block (a := ⟨g, o + j, none⟩) hb).trans (h j u hj)
theorem SR.below {R g o c d : Nat} {rs : List Tok} {w w' : World} (h : SR R g o c d rs w) (hb : Below w.heap.size w w') : SR R g o c d rs w' :=
  ⟨(hb.block _ h.ltR).trans h.here, h.toks.keep (hb.block _ h.lt), Nat.lt_of_lt_of_le h.lt hb.size, h.ne, h.cap⟩
theorem SR.alloc {R g o c d : Nat} {rs : List Tok} {w : World} (h : SR R g o c d rs w) (x : Obj) : SR R g o c d rs (w.alloc x) := h.below (bal (Below.refl _ _) x)
theorem SR.cells {R g o c d : Nat} {rs : List Tok} {w : World} (h : SR R g o c d rs w) : w.cell? ⟨R, 0, none⟩ = some (.slice (some ⟨g, o, none⟩) rs.length c) ∧ w.cell? ⟨R, 1, none⟩ = some (.int .i64 (d : Int)) ∧ ∀ j, w.frozen? ⟨R, j, none⟩ = false :=
  ⟨(cells_at h.here).1 0, (cells_at h.here).1 1, (cells_at h.here).2.1⟩
theorem SR.head {R g o c d : Nat} {t : Tok} {rs : List Tok} {w : World} (h : SR R g o c d (t :: rs) w) :
    w.cell? ⟨g, o, none⟩ = some (.int .i64 (t.kind : Int)) ∧ w.cell? ⟨g, o + 1, none⟩ = some (.string (mkS t.text)) ∧ w.cell? ⟨g, o + 2, none⟩ = some (.int .u64 (wd t.cls 0)) ∧ w.cell? ⟨g, o + 3, none⟩ = some (.int .u64 (wd t.cls 1)) ∧ w.cell? ⟨g, o + 4, none⟩ = some (.int .u64 (wd t.cls 2)) ∧ w.cell? ⟨g, o + 5, none⟩ = some (.int .u64 (wd t.cls 3)) ∧ w.cell? ⟨g, o + 6, none⟩ = some (.int .i64 (t.pos : Int)) :=
  ⟨h.toks 0 _ rfl, h.toks 1 _ rfl, h.toks 2 _ rfl, h.toks 3 _ rfl, h.toks 4 _ rfl, h.toks 5 _ rfl, h.toks 6 _ rfl⟩
theorem SR.step {R g o c d : Nat} {t : Tok} {rs : List Tok} {w : World} (h : SR R g o c d (t :: rs) w) : SR R g (o + 7) (c - 1) d rs (w.setCell ⟨R, 0, none⟩ (.slice (some ⟨g, o + 7, none⟩) rs.length (c - 1))) := by
  have hc := h.cap
  simp only [List.length_cons] at hc
  refine ⟨heap_setCell_same _ R 0 _ _ _ h.here, ?_, by have := h.lt; simpa using this, h.ne, by omega⟩
  intro j u hj
  rw [cell_set_ne w ⟨R, 0, none⟩ _ g (o + 7 + j) h.ne, Nat.add_assoc]
  exact h.toks (7 + j) u (by rw [tokCells, List.getElem?_append_right (by simp [tokC]), ← hj]; congr 1; simp [tokC])
theorem gby_alloc {w w' : World} {r : Option Nat} (h : w.grownBy w' r) (o : Obj) : w.grownBy (w'.alloc o) r := h.trans (World.grownBy_alloc w' o r)
theorem gby_below {w w1 w2 : World} {r : Option Nat} (h : w.grownBy w1 r) (hb : Below w1.heap.size w1 w2) : w.grownBy w2 r := h.trans ⟨hb.os, hb.tape, hb.output, hb.size, fun k hk _ => hb.block k hk⟩
theorem below_gby {w w1 : World} (r : Option Nat) (hb : Below w.heap.size w w1) : w.grownBy w1 r := ⟨hb.os, hb.tape, hb.output, hb.size, fun k hk _ => hb.block k hk⟩
theorem gby_set {w w1 : World} {r : Option Nat} (h : w.grownBy w1 r) {b : Nat} (hb : w.heap.size ≤ b) (i : Nat) (u : Value) : w.grownBy (w1.setCell ⟨b, i, none⟩ u) r :=
  ⟨h.os, h.tape, h.output, by simpa using h.size, fun k hk hr => (heap_setCell_other w1 ⟨b, i, none⟩ k u (fun e => by have : k = b := e; omega)).trans (h.block k hk hr)⟩
theorem SR.set {R g o c d : Nat} {rs : List Tok} {w : World} (h : SR R g o c d rs w) {b : Nat} (h1 : b ≠ R) (h2 : b ≠ g) (i : Nat) (u : Value) : SR R g o c d rs (w.setCell ⟨b, i, none⟩ u) :=
  ⟨(heap_setCell_other w ⟨b, i, none⟩ R u (fun e => h1 e.symm)).trans h.here, h.toks.keep (heap_setCell_other w ⟨b, i, none⟩ g u (fun e => h2 e.symm)), by simpa using h.lt, h.ne, h.cap⟩
theorem gcell {w w1 : World} {r b : Nat} (h : w.grownBy w1 (some r)) (hb : b < w.heap.size) (hr : b ≠ r) : (∀ j, w1.cell? ⟨b, j, none⟩ = w.cell? ⟨b, j, none⟩) ∧ ∀ j, w1.frozen? ⟨b, j, none⟩ = w.frozen? ⟨b, j, none⟩ := by
  have e := h.block b hb (fun e => hr (Option.some.inj e))
  exact ⟨fun j => World.cell?_of_block (a := ⟨b, j, none⟩) e, fun j => by unfold World.frozen?; simp only [e]⟩
/-- The sign that comes. -/
def sgnOf : List Tok → List UInt8
  | [] => []
  | t :: _ => if t.kind = 5 then t.text else []
/-- It throws an error. -/
def PanF (c x : Int) (w : World) (e : Ending) (w' : World) : Prop := ∃ p, e = .panicked [{ v := .iface 79 (.pointer (some ⟨p, 0, none⟩)), recovered := false }] ∧ FaultI p c x w' ∧ w.heap.size ≤ p
set_option maxRecDepth 100000 in
set_option maxHeartbeats 800000 in
theorem stop_any {R g o c d : Nat} {t : Tok} {rs : List Tok} {w : World} (h : SR R g o c d (t :: rs) w) (x : Int) :
    Calls Tryz.prog 43 #[.pointer (some ⟨R, 0, none⟩), .int .i64 x] w fun e w' => PanF x t.pos w e w' ∧ Below w.heap.size w w' := by
  obtain ⟨c0, c1, fz⟩ := h.cells
  obtain ⟨_, _, _, _, _, _, a6⟩ := h.head
  clear h
  dsimp only [List.length] at c0
  go_enter Tryz.func43, Tryz.ntmps43
  repeat (first | go_values | go_skip | go_guarded | go_step | go_upon)
  exact ⟨rfl, ⟨_, rfl, heap_alloc_new _ _, Nat.le_refl _⟩, (by repeat (first | exact Below.refl _ _ | assumption | refine bal ?_ _ | refine bdr ?_ | refine bdrn ?_ _ | (refine bset ?_ (by first | exact Nat.le_refl _ | (simp; done) | (simp; omega) | omega) _) | refine bstep ?_ (by assumption)))⟩
set_option maxRecDepth 100000 in
set_option maxHeartbeats 800000 in
theorem ssign_any {R g o c d : Nat} {t : Tok} {rs : List Tok} {w : World} (h : SR R g o c d (t :: rs) w) :
    Calls Tryz.prog 63 #[.pointer (some ⟨R, 0, none⟩)] w (Ans (.string (mkS (sgnOf (t :: rs)))) w) := by
  obtain ⟨c0, c1, fz⟩ := h.cells
  obtain ⟨a0, a1, a2, a3, a4, a5, a6⟩ := h.head
  clear h
  dsimp only [List.length] at c0
  by_cases h5 : t.kind = 5
  · have m1 : ((t.kind : Int) != 5) = false := by simp; omega
    have HS := Lib.hid (show sgnOf (t :: rs) = t.text by rw [sgnOf, if_pos h5])
    clear h5
    go_enter Tryz.func63, Tryz.ntmps63
    repeat (first | go_values | go_skip | go_guarded | go_step | go_upon)
    go_ret
    rw [HS.out]
    exact ⟨rfl, (by repeat (first | exact Below.refl _ _ | assumption | refine bal ?_ _ | refine bdr ?_ | refine bdrn ?_ _ | (refine bset ?_ (by first | exact Nat.le_refl _ | (simp; done) | (simp; omega) | omega) _) | refine bstep ?_ (by assumption)))⟩
  · have m1 : ((t.kind : Int) != 5) = true := by simp; omega
    have HS := Lib.hid (show sgnOf (t :: rs) = [] by rw [sgnOf, if_neg h5])
    clear h5
    go_enter Tryz.func63, Tryz.ntmps63
    repeat (first | go_values | go_skip | go_guarded | go_step | go_upon)
    go_ret
    rw [HS.out]
    exact ⟨rfl, (by repeat (first | exact Below.refl _ _ | assumption | refine bal ?_ _ | refine bdr ?_ | refine bdrn ?_ _ | (refine bset ?_ (by first | exact Nat.le_refl _ | (simp; done) | (simp; omega) | omega) _) | refine bstep ?_ (by assumption)))⟩
set_option maxRecDepth 100000 in
set_option maxHeartbeats 800000 in
theorem snext_any {R g o c d : Nat} {t t2 : Tok} {rs : List Tok} {w : World} (h : SR R g o c d (t :: t2 :: rs) w) :
    Calls Tryz.prog 61 #[.pointer (some ⟨R, 0, none⟩)] w fun e w' => e = .returned (.agg #[.int .i64 (t.kind : Int), .string (mkS t.text), .int .u64 (wd t.cls 0), .int .u64 (wd t.cls 1), .int .u64 (wd t.cls 2), .int .u64 (wd t.cls 3), .int .i64 (t.pos : Int)]) ∧ SR R g (o + 7) (c - 1) d (t2 :: rs) w' ∧ w.grownBy w' (some R) := by
  obtain ⟨c0, c1, fz⟩ := h.cells
  obtain ⟨a0, a1, a2, a3, a4, a5, a6⟩ := h.head
  have hc := h.cap
  have HH := Lib.hid h
  have qR := h.ltR
  have qg := h.lt
  have qR1 : R < w.heap.size + 1 := by omega
  have qg1 : g < w.heap.size + 1 := by omega
  clear h
  dsimp only [List.length] at c0 hc
  have hm1 := cell_alloc_lt; have hm2 := frozen_alloc_lt; have hm3 := cell_set_lt; have hm4 := cell_set_gt
  go_enter Tryz.func61, Tryz.ntmps61
  repeat (first | go_values | go_skip | go_guarded | go_step | go_upon)
  refine bodyPost_ret (v := .agg #[.int .i64 (t.kind : Int), .string (mkS t.text), .int .u64 (wd t.cls 0), .int .u64 (wd t.cls 1), .int .u64 (wd t.cls 2), .int .u64 (wd t.cls 3), .int .i64 (t.pos : Int)]) (by simp [results, Tryz.results61, go_sem]) rfl ?_
  have h1 := HH.out.step
  exact ⟨rfl, (h1.alloc _).alloc _, gby_alloc (gby_alloc (gsetk w ⟨R, 0, none⟩ _) _) _⟩
set_option maxRecDepth 100000 in
set_option maxHeartbeats 800000 in
theorem swrong_any {R g o c d : Nat} {t : Tok} {rs : List Tok} {w : World} (h : SR R g o c d (t :: rs) w) :
    Calls Tryz.prog 60 #[.pointer (some ⟨R, 0, none⟩)] w fun e w' => PanF ((if t.kind = 6 then 3 else 4 : Nat) : Int) t.pos w e w' ∧ Below w.heap.size w w' := by
  obtain ⟨c0, c1, fz⟩ := h.cells
  obtain ⟨a0, a1, a2, a3, a4, a5, a6⟩ := h.head
  have HH := Lib.hid h
  clear h
  dsimp only [List.length] at c0
  by_cases h6 : t.kind = 6
  · have m1 : ((t.kind : Int) == 6) = true := by simp; omega
    rw [if_pos h6]
    clear h6
    go_enter Tryz.func60, Tryz.ntmps60
    repeat (first | go_values | go_skip | go_guarded | go_step | go_upon)
    refine (stop_any HH.out 3).mono ?_
    rintro e w1 ⟨⟨p, rfl, hp, hl⟩, hb1⟩
    dsimp only
    repeat (first | go_values | go_skip | go_guarded | go_step | go_upon)
    exact ⟨rfl, ⟨p, rfl, hp, hl⟩, hb1⟩
  · have m1 : ((t.kind : Int) == 6) = false := by simp; omega
    rw [if_neg h6]
    clear h6
    go_enter Tryz.func60, Tryz.ntmps60
    repeat (first | go_values | go_skip | go_guarded | go_step | go_upon)
    refine (stop_any HH.out 4).mono ?_
    rintro e w1 ⟨⟨p, rfl, hp, hl⟩, hb1⟩
    dsimp only
    repeat (first | go_values | go_skip | go_guarded | go_step | go_upon)
    exact ⟨rfl, ⟨p, rfl, hp, hl⟩, hb1⟩
set_option maxRecDepth 100000 in
set_option maxHeartbeats 800000 in
theorem must_yes {R g o c d : Nat} {t t2 : Tok} {rs : List Tok} {w : World} (h : SR R g o c d (t :: t2 :: rs) w) :
    Calls Tryz.prog 44 #[.pointer (some ⟨R, 0, none⟩), .int .i64 (t.kind : Int)] w fun e w' => e = .returned (.agg #[.int .i64 (t.kind : Int), .string (mkS t.text), .int .u64 (wd t.cls 0), .int .u64 (wd t.cls 1), .int .u64 (wd t.cls 2), .int .u64 (wd t.cls 3), .int .i64 (t.pos : Int)]) ∧ SR R g (o + 7) (c - 1) d (t2 :: rs) w' ∧ w.grownBy w' (some R) := by
  obtain ⟨c0, c1, fz⟩ := h.cells
  obtain ⟨a0, a1, a2, a3, a4, a5, a6⟩ := h.head
  have HH := Lib.hid h
  have qR := h.ltR
  have qg := h.lt
  clear h
  dsimp only [List.length] at c0
  have hm1 := cell_alloc_lt; have hm2 := frozen_alloc_lt; have hm3 := cell_set_lt; have hm4 := cell_set_gt
  go_enter Tryz.func44, Tryz.ntmps44
  repeat (first | go_values | go_skip | go_guarded | go_step | go_upon)
  refine (snext_any (HH.out.alloc _)).mono ?_
  rintro e w1 ⟨rfl, h1, g1⟩
  obtain ⟨hcB, hfB⟩ := gcell (b := w.heap.size) g1 (by simp) (by omega)
  have H1 := Lib.hid h1
  have G1 := Lib.hid g1
  clear h1 g1
  dsimp only
  repeat (first | go_values | go_skip | go_guarded | go_step | go_upon)
  refine bodyPost_ret (v := .agg #[.int .i64 (t.kind : Int), .string (mkS t.text), .int .u64 (wd t.cls 0), .int .u64 (wd t.cls 1), .int .u64 (wd t.cls 2), .int .u64 (wd t.cls 3), .int .i64 (t.pos : Int)]) (by simp [results, Tryz.results44, go_sem, hcB]) rfl ?_
  refine ⟨rfl, ?_, ?_⟩
  · repeat (with_reducible refine SR.set ?_ (by omega) (by omega) _ _)
    exact H1.out
  · repeat (with_reducible refine gby_set ?_ (Nat.le_refl _) _ _)
    exact (below_gby _ (bal (Below.refl _ _) _)).trans G1.out
set_option maxRecDepth 100000 in
set_option maxHeartbeats 800000 in
theorem must_no {R g o c d k : Nat} {t : Tok} {rs : List Tok} {w : World} (h : SR R g o c d (t :: rs) w) (hk : t.kind ≠ k) :
    Calls Tryz.prog 44 #[.pointer (some ⟨R, 0, none⟩), .int .i64 (k : Int)] w fun e w' => PanF ((if t.kind = 6 then 3 else 4 : Nat) : Int) t.pos w e w' ∧ Below w.heap.size w w' := by
  obtain ⟨c0, c1, fz⟩ := h.cells
  obtain ⟨a0, a1, a2, a3, a4, a5, a6⟩ := h.head
  have HH := Lib.hid h
  have qR := h.ltR
  have qg := h.lt
  have m1 : ((t.kind : Int) != k) = true := by simp; omega
  clear h hk
  dsimp only [List.length] at c0
  have hm1 := cell_alloc_lt; have hm2 := frozen_alloc_lt; have hm3 := cell_set_lt; have hm4 := cell_set_gt
  go_enter Tryz.func44, Tryz.ntmps44
  repeat (first | go_values | go_skip | go_guarded | go_step | go_upon)
  refine (swrong_any (HH.out.alloc _)).mono ?_
  rintro e w1 ⟨⟨p, rfl, hp, hl⟩, hb1⟩
  dsimp only
  repeat (first | go_values | go_skip | go_guarded | go_step | go_upon)
  simp only [World.size_alloc] at hl
  exact ⟨rfl, ⟨p, rfl, hp, by omega⟩, (by repeat (first | exact Below.refl _ _ | assumption | refine bal ?_ _ | refine bdr ?_ | refine bdrn ?_ _ | (refine bset ?_ (by first | exact Nat.le_refl _ | (simp; done) | (simp; omega) | omega) _) | refine bstep ?_ (by assumption)))⟩
end Go.Proofs.YtjlcoldnhbkcgaaGreatDoor
namespace Go.Proofs.YtjlcoldnhbkcgaaGreatDoor
open Go.RowKit Go.Sort

/-- A node of a tree. -/
inductive Nd where
  | mk (kind : Nat) (text : List UInt8) (cls : BitVec 256) (subs : List Nd) (pos : Nat)
def Nd.pos : Nd → Nat
  | .mk _ _ _ _ p => p
/-- What reading comes to: an error and its place, or something and the tokens that are left. -/
inductive PR (α : Type) where
  | err (c x : Nat)
  | ok (a : α) (rs : List Tok)
/-- What can't stand there. -/
def badE : List Tok → Nat
  | [] => 4
  | t :: _ => if t.kind = 6 then 3 else 4
def posT : List Tok → Nat
  | [] => 0
  | t :: _ => t.pos
def kindT : List Tok → Nat
  | [] => 0
  | t :: _ => t.kind
/-- A row of trees as one. -/
def joinN (k : Nat) : List Nd → Nd
  | [] => .mk k [] 0 [] 0
  | [n] => n
  | n :: m :: l => .mk k [] 0 (n :: m :: l) n.pos
/-- The kind that a sign ahead, or behind, makes. -/
def preK (s : List UInt8) : Nat := if s = [38] then 11 else if s = [33] then 12 else 0
def sufK (s : List UInt8) : Nat := if s = [43] then 10 else if s = [42] then 9 else if s = [63] then 8 else 0
mutual
def pChoice : Nat → Nat → List Tok → Option (PR Nd)
  | 0, _, _ => none
  | f + 1, d, rs => match pParts f d rs [] with
    | none => none
    | some (.err c x) => some (.err c x)
    | some (.ok n rs) => pAlts f d rs [n]
def pAlts : Nat → Nat → List Tok → List Nd → Option (PR Nd)
  | 0, _, _, _ => none
  | f + 1, d, rs, l => if sgnOf rs = [47] then match pParts f d rs.tail [] with
      | none => none
      | some (.err c x) => some (.err c x)
      | some (.ok n rs) => pAlts f d rs (l ++ [n])
    else some (.ok (joinN 7 l) rs)
def pParts : Nat → Nat → List Tok → List Nd → Option (PR Nd)
  | 0, _, _, _ => none
  | f + 1, d, rs, l => match pPart f d rs with
    | none => none
    | some (.err c x) => some (.err c x)
    | some (.ok none rs) => some (.ok (if l.length = 0 then .mk 1 [] 0 [] (posT rs) else joinN 6 l) rs)
    | some (.ok (some n) rs) => pParts f d rs (l ++ [n])
def pPart : Nat → Nat → List Tok → Option (PR (Option Nd))
  | 0, _, _ => none
  | f + 1, d, rs => match pOne f d (if preK (sgnOf rs) = 0 then rs else rs.tail) with
    | none => none
    | some (.err c x) => some (.err c x)
    | some (.ok none rs2) => if preK (sgnOf rs) = 0 then some (.ok none rs2) else some (.err (badE rs2) (posT rs2))
    | some (.ok (some n) rs2) =>
      let n1 := if sufK (sgnOf rs2) = 0 then n else .mk (sufK (sgnOf rs2)) [] 0 [n] n.pos
      let n2 := if preK (sgnOf rs) = 0 then n1 else .mk (preK (sgnOf rs)) [] 0 [n1] (posT rs)
      some (.ok (some n2) (if sufK (sgnOf rs2) = 0 then rs2 else rs2.tail))
def pOne : Nat → Nat → List Tok → Option (PR (Option Nd))
  | 0, _, _ => none
  | _ + 1, _, [] => none
  | f + 1, d, t :: rs =>
    if t.kind = 1 then (if kindT rs = 2 then some (.ok none (t :: rs)) else some (.ok (some (.mk 5 t.text t.cls [] t.pos)) rs))
    else if t.kind = 3 then some (.ok (some (.mk 2 t.text t.cls [] t.pos)) rs)
    else if t.kind = 4 then some (.ok (some (.mk 3 t.text t.cls [] t.pos)) rs)
    else if t.kind = 5 ∧ t.text = [46] then some (.ok (some (.mk 4 [] t.cls [] t.pos)) rs)
    else if t.kind = 5 ∧ t.text = [40] then
      (if d = 24 then some (.err 2 t.pos) else match pChoice f (d + 1) rs with
        | none => none
        | some (.err c x) => some (.err c x)
        | some (.ok n rs2) => if sgnOf rs2 = [41] then some (.ok (some n) rs2.tail) else some (.err (badE rs2) (posT rs2)))
    else some (.ok none (t :: rs))
end
/-- The last token is the end, and no other is. -/
def EndsT : List Tok → Prop
  | [] => False
  | [t] => t.kind = 6
  | t :: u :: l => t.kind ≠ 6 ∧ EndsT (u :: l)
theorem EndsT.more {t : Tok} {rs : List Tok} (h : EndsT (t :: rs)) (hk : t.kind ≠ 6) : ∃ u l, rs = u :: l ∧ EndsT (u :: l) := by
  cases rs with
  | nil => exact absurd h hk
  | cons u l => exact ⟨u, l, rfl, h.2⟩
/-- The cells of a node whose parts are that slice. -/
def ndC (k : Nat) (t : List UInt8) (c : BitVec 256) (v : Value) (p : Nat) : List Value := [.int .i64 (k : Int), .string (mkS t), .int .u64 (wd c 0), .int .u64 (wd c 1), .int .u64 (wd c 2), .int .u64 (wd c 3), v, .int .i64 (p : Int)]
mutual
/-- These cells are that tree, in these blocks. -/
inductive Rep (w : World) (P : Nat → Prop) : Nd → List Value → Prop
  | mk {k : Nat} {t : List UInt8} {c : BitVec 256} {l : List Nd} {p : Nat} {v : Value} : RepS w P l v → Rep w P (.mk k t c l p) (ndC k t c v p)
inductive RepS (w : World) (P : Nat → Prop) : List Nd → Value → Prop
  | nil : RepS w P [] (.slice none 0 0)
  | row {l : List Nd} {g cap : Nat} {cur : Array Value} {cs : List Value} : P g → w.heap[g]? = some (.cells cur 40 (0, 0)) → 0 < l.length → l.length ≤ cap → l.length ≤ maxLen → cur.toList.take (l.length * 8) = cs → Reps w P l cs → RepS w P l (.slice (some ⟨g, 0, none⟩) l.length cap)
inductive Reps (w : World) (P : Nat → Prop) : List Nd → List Value → Prop
  | nil : Reps w P [] []
  | cons {n : Nd} {l : List Nd} {c cs : List Value} : Rep w P n c → Reps w P l cs → Reps w P (n :: l) (c ++ cs)
end
mutual
theorem Rep.mono {w w' : World} {P P' : Nat → Prop} (hb : ∀ b, P b → w'.heap[b]? = w.heap[b]?) (hP : ∀ b, P b → P' b) {n : Nd} {c : List Value} : Rep w P n c → Rep w' P' n c
  | .mk h => .mk (RepS.mono hb hP h)
theorem RepS.mono {w w' : World} {P P' : Nat → Prop} (hb : ∀ b, P b → w'.heap[b]? = w.heap[b]?) (hP : ∀ b, P b → P' b) {l : List Nd} {v : Value} : RepS w P l v → RepS w' P' l v
  | .nil => .nil
  | .row h1 h2 h3 h4 hm h5 h6 => .row (hP _ h1) ((hb _ h1).trans h2) h3 h4 hm h5 (Reps.mono hb hP h6)
theorem Reps.mono {w w' : World} {P P' : Nat → Prop} (hb : ∀ b, P b → w'.heap[b]? = w.heap[b]?) (hP : ∀ b, P b → P' b) {l : List Nd} {cs : List Value} : Reps w P l cs → Reps w' P' l cs
  | .nil => .nil
  | .cons h1 h2 => .cons (Rep.mono hb hP h1) (Reps.mono hb hP h2)
end
theorem Rep.form {w : World} {P : Nat → Prop} {n : Nd} {c : List Value} (h : Rep w P n c) : ∃ k t x v l, n = .mk k t x l n.pos ∧ c = ndC k t x v n.pos ∧ RepS w P l v := by
  cases h with
  | mk h => exact ⟨_, _, _, _, _, rfl, rfl, h⟩
theorem Reps.length {w : World} {P : Nat → Prop} {l : List Nd} {cs : List Value} (h : Reps w P l cs) : cs.length = l.length * 8 := by
  induction l generalizing cs with
  | nil => cases h; rfl
  | cons n l ih =>
    cases h with
    | cons h1 h2 =>
      cases h1
      rw [List.length_append, ih h2, List.length_cons]
      simp [ndC]
      omega
theorem Reps.snoc {w : World} {P : Nat → Prop} {l : List Nd} {cs : List Value} {n : Nd} {c : List Value} (h : Reps w P l cs) (hn : Rep w P n c) : Reps w P (l ++ [n]) (cs ++ c) := by
  induction l generalizing cs with
  | nil => cases h; simpa using Reps.cons hn .nil
  | cons m l ih =>
    cases h with
    | cons h1 h2 =>
      rw [List.cons_append, List.append_assoc]
      exact .cons h1 (ih h2)
end Go.Proofs.YtjlcoldnhbkcgaaGreatDoor
namespace Go.Proofs.YtjlcoldnhbkcgaaGreatDoor
open Go.RowKit Go.Sort

theorem RepS.slice {w : World} {P : Nat → Prop} {l : List Nd} {v : Value} (h : RepS w P l v) : ∃ a n c, v = .slice a n c := by
  cases h with
  | nil => exact ⟨_, _, _, rfl⟩
  | row => exact ⟨_, _, _, rfl⟩
theorem repS_row {w w' : World} {P : Nat → Prop} {l : List Nd} {g n cap : Nat} {cur : Array Value} {cs : List Value} (hn : l.length = n) (hk : w'.heap[g]? = w.heap[g]?) (h1 : w.heap[g]? = some (.cells cur 40 (0, 0))) (hc : n ≤ cap) (ht : cur.toList.take (n * 8) = cs) (hr : Reps w' P l cs) (hg : P g) (hm : n ≤ maxLen) (h0 : 0 < n := by omega) : RepS w' P l (.slice (some ⟨g, 0, none⟩) n cap) := by
  subst hn
  exact .row hg (hk.trans h1) h0 hc hm ht hr
/-- It answers a node that is that tree. -/
def AnsNd (n : Nd) (P : Nat → Prop) (v : Value) (w' : World) : Prop := ∃ c : List Value, v = .agg c.toArray ∧ Rep w' P n c
theorem owns_block {w : World} {B g n cap : Nat} {e : TypeId} {size : Nat} {xs : List Value} (h : w.ownsRow B e size (.slice (some ⟨g, 0, none⟩) n cap) n xs) : B ≤ g ∧ n ≤ cap ∧ ∃ cur, w.heap[g]? = some (.cells cur e (0, 0)) ∧ cur.toList.take (n * size) = xs := by
  rcases h.2 with ⟨h1, _⟩ | ⟨g1, cap1, cur, h1, h2, h3, h4, _, _, h5⟩
  · cases h1
  · cases h1; exact ⟨h2, h4, cur, h3, h5⟩
set_option maxRecDepth 100000 in
set_option maxHeartbeats 1600000 in
theorem joined_any {l : List Nd} {cs : List Value} {B g cap n : Nat} {w : World} {P : Nat → Prop} (k : Nat) (hl : 0 < n) (hn : l.length = n) (hn2 : n ≤ 100000) (hown : w.ownsRow B 40 8 (.slice (some ⟨g, 0, none⟩) n cap) n cs) (hr : Reps w P l cs) (hP : ∀ b, P b → b < w.heap.size) :
    Calls Tryz.prog 64 #[.int .i64 (k : Int), .slice (some ⟨g, 0, none⟩) n cap] w (fun e w' => ∃ v, e = .returned v ∧ AnsNd (joinN k l) (fun b => P b ∨ b = g) v w' ∧ Below w.heap.size w w') := by
  obtain ⟨hB, hcap, cur, hcur, htake⟩ := owns_block hown
  have hgl : g < w.heap.size := (Array.getElem?_eq_some_iff.1 hcur).1
  have KEEP := Lib.hid (fun (w' : World) (hb : Below w.heap.size w w') => fun b (h : P b ∨ b = g) => (hb.block b (by rcases h with h | h; exact hP b h; omega) : w'.heap[b]? = w.heap[b]?))
  have HO := Lib.hid hown
  match l, hn, hr with
  | [], hn, _ => simp at hn; omega
  | [m], hn, .cons (c := c) (cs := cs2) h1 h2 =>
    cases h2
    obtain ⟨k0, t0, x0, v0, l0, e1, e2, h3⟩ := h1.form
    obtain ⟨sa, sn, sc, rfl⟩ := h3.slice
    have H1 := Lib.hid h1
    simp at hn
    subst hn
    have key : ∀ j, j < 8 → w.cell? ⟨g, j, none⟩ = (ndC k0 t0 x0 (.slice sa sn sc) m.pos)[j]? := fun j hj => by rw [HO.out.cellAt j (by omega), List.append_nil, e2]
    have a0 := key 0 (by decide)
    have a1 := key 1 (by decide)
    have a2 := key 2 (by decide)
    have a3 := key 3 (by decide)
    have a4 := key 4 (by decide)
    have a5 := key 5 (by decide)
    have a6 := key 6 (by decide)
    have a7 := key 7 (by decide)
    simp only [ndC, List.getElem?_cons_zero, List.getElem?_cons_succ] at a0 a1 a2 a3 a4 a5 a6 a7
    have E2 := Lib.hid e2
    have hm1 := cell_alloc_lt
    clear hown hcur htake key h1 e1 e2 h3
    go_enter Tryz.func64, Tryz.ntmps64
    repeat (first | go_values | go_skip | go_guarded | go_step | go_upon)
    refine bodyPost_ret (v := .agg (ndC k0 t0 x0 (.slice sa sn sc) m.pos).toArray) (by simp [ndC, results, Tryz.results64, go_sem]) rfl ?_
    refine ⟨_, rfl, ⟨c, by rw [E2.out], ?_⟩, (by repeat (first | exact Below.refl _ _ | assumption | refine bal ?_ _ | refine bdr ?_ | refine bdrn ?_ _ | (refine bset ?_ (by first | exact Nat.le_refl _ | (simp; done) | (simp; omega) | omega) _) | refine bstep ?_ (by assumption)))⟩
    exact H1.out.mono (fun b h => KEEP.out _ (by repeat (first | exact Below.refl _ _ | assumption | refine bal ?_ _ | refine bdr ?_ | refine bdrn ?_ _ | (refine bset ?_ (by first | exact Nat.le_refl _ | (simp; done) | (simp; omega) | omega) _) | refine bstep ?_ (by assumption))) b (.inl h)) (fun b h => .inl h)
  | m :: m2 :: l2, hn, .cons (c := c) (cs := cs2) h1 h2 =>
    obtain ⟨k0, t0, x0, v0, l0, e1, e2, h3⟩ := h1.form
    have HR := Lib.hid (Reps.cons h1 h2)
    have a7 : w.cell? ⟨g, 7, none⟩ = some (.int .i64 (m.pos : Int)) := by
      rw [HO.out.cellAt 7 (by omega), List.getElem?_append_left (by rw [e2]; simp [ndC]), e2]
      rfl
    have HC := Lib.hid hcur
    have HT := Lib.hid htake
    have HN := Lib.hid hn
    simp at hn
    have m1 : ((n : Int) == 1) = false := by simp; omega
    have hm1 := cell_alloc_lt
    clear hown hcur htake h1 h2 e1 e2 h3 hn
    go_enter Tryz.func64, Tryz.ntmps64
    repeat (first | go_values | go_skip | go_guarded | go_step | go_upon)
    refine bodyPost_ret (v := .agg (ndC k [] 0 (.slice (some ⟨g, 0, none⟩) n cap) m.pos).toArray) (by simp [ndC, mkS, wd_zero, results, Tryz.results64, go_sem]) rfl ?_
    refine ⟨_, rfl, ⟨_, rfl, .mk ?_⟩, (by repeat (first | exact Below.refl _ _ | assumption | refine bal ?_ _ | refine bdr ?_ | refine bdrn ?_ _ | (refine bset ?_ (by first | exact Nat.le_refl _ | (simp; done) | (simp; omega) | omega) _) | refine bstep ?_ (by assumption)))⟩
    have hb : Below w.heap.size w (w.alloc (.cells #[.int .i64 (k : Int), .string ⟨#[]⟩, .int .u64 0, .int .u64 0, .int .u64 0, .int .u64 0, .slice (some ⟨g, 0, none⟩) n cap, .int .i64 (m.pos : Int)] 40)) := (by repeat (first | exact Below.refl _ _ | assumption | refine bal ?_ _ | refine bdr ?_ | refine bdrn ?_ _ | (refine bset ?_ (by first | exact Nat.le_refl _ | (simp; done) | (simp; omega) | omega) _) | refine bstep ?_ (by assumption)))
    exact repS_row HN.out (KEEP.out _ hb g (.inr rfl)) HC.out hcap HT.out (HR.out.mono (fun b h => KEEP.out _ hb b (.inl h)) (fun b h => .inl h)) (.inr rfl) (by unfold maxLen; omega)
end Go.Proofs.YtjlcoldnhbkcgaaGreatDoor
namespace Go.Proofs.YtjlcoldnhbkcgaaGreatDoor
open Go.RowKit Go.Sort

/-- Blocks that were made between two worlds. -/
def Fresh (w w' : World) (b : Nat) : Prop := w.heap.size ≤ b ∧ b < w'.heap.size
theorem Fresh.lo {w w' : World} {b : Nat} (h : Fresh w w' b) : w.heap.size ≤ b := h.1
theorem Fresh.hi {w w' : World} {b : Nat} (h : Fresh w w' b) : b < w'.heap.size := h.2
theorem rep_wide {w : World} {P P' : Nat → Prop} {n : Nd} {c : List Value} (h : Rep w P n c) (hP : ∀ b, P b → P' b) : Rep w P' n c := h.mono (fun _ _ => rfl) hP
theorem rep_set {w : World} {P : Nat → Prop} {n : Nd} {c : List Value} (h : Rep w P n c) {k : Nat} (hk : ∀ b, P b → b ≠ k) (i : Nat) (u : Value) : Rep (w.setCell ⟨k, i, none⟩ u) P n c :=
  h.mono (fun b hb => heap_setCell_other w ⟨k, i, none⟩ b u (hk b hb)) (fun _ hb => hb)
theorem rep_alloc {w : World} {P : Nat → Prop} {n : Nd} {c : List Value} (h : Rep w P n c) (hP : ∀ b, P b → b < w.heap.size) (o : Obj) : Rep (w.alloc o) P n c :=
  h.mono (fun b hb => RowKit.Below.heap_alloc w o b (hP b hb)) (fun _ hb => hb)
theorem rep_below {w w' : World} {P : Nat → Prop} {n : Nd} {c : List Value} (h : Rep w P n c) (hP : ∀ b, P b → b < w.heap.size) (hb : Below w.heap.size w w') : Rep w' P n c :=
  h.mono (fun b h => hb.block b (hP b h)) (fun _ hb => hb)
theorem rep_gby {w w' : World} {R : Nat} {P : Nat → Prop} {n : Nd} {c : List Value} (h : Rep w P n c) (hP : ∀ b, P b → b < w.heap.size) (hR : ∀ b, P b → b ≠ R) (hb : w.grownBy w' (some R)) : Rep w' P n c :=
  h.mono (fun b h => hb.block b (hP b h) (fun e => hR b h (Option.some.inj e))) (fun _ hb => hb)
theorem SR.deep {R g o c d : Nat} {rs : List Tok} {w : World} (h : SR R g o c d rs w) (d' : Nat) (x : Int) (hx : x = (d' : Int)) : SR R g o c d' rs (w.setCell ⟨R, 1, none⟩ (.int .i64 x)) := by
  subst hx
  exact ⟨heap_setCell_same _ R 1 _ _ _ h.here, h.toks.keep (heap_setCell_other w ⟨R, 1, none⟩ g _ h.ne), by simpa using h.lt, h.ne, h.cap⟩
theorem pcell {w w1 : World} {b : Nat} (h : Below w.heap.size w w1) (hb : b < w.heap.size) : (∀ j, w1.cell? ⟨b, j, none⟩ = w.cell? ⟨b, j, none⟩) ∧ ∀ j, w1.frozen? ⟨b, j, none⟩ = w.frozen? ⟨b, j, none⟩ :=
  ⟨fun j => (bcell h).1 b j hb, fun j => (bcell h).2 b j hb⟩
/-- What reading a tree comes to. -/
def NdP (R g d len : Nat) (w : World) (e : Ending) (w' : World) : PR Nd → Prop
  | .err c x => PanF c x w e w' ∧ w.grownBy w' (some R)
  | .ok n rs => ∃ c, e = .returned (.agg c) ∧ Rep w' (Fresh w w') n c.toList ∧ (∃ o c, SR R g o c d rs w') ∧ w.grownBy w' (some R) ∧ EndsT rs ∧ rs.length ≤ len
/-- The contract of choice at these tokens. -/
def ChoiceC (R g : Nat) (rs : List Tok) : Prop := ∀ (o c d : Nat) (w : World), SR R g o c d rs w → d ≤ 24 → EndsT rs →
  Calls Tryz.prog 45 #[.pointer (some ⟨R, 0, none⟩)] w (fun e w' => ∃ f r, pChoice f d rs = some r ∧ NdP R g d rs.length w e w' r)
theorem ssign_is {R g o c d : Nat} {t : Tok} {rs : List Tok} {w : World} (h : SR R g o c d (t :: rs) w) {s : List UInt8} (hs : sgnOf (t :: rs) = s) : Calls Tryz.prog 63 #[.pointer (some ⟨R, 0, none⟩)] w (Ans (.string ⟨s.toArray⟩) w) := by
  subst hs; exact ssign_any h
theorem EndsT.ne {rs : List Tok} (h : EndsT rs) : ∃ u l, rs = u :: l := by
  cases rs with
  | nil => cases h
  | cons u l => exact ⟨u, l, rfl⟩
theorem sgn_kind {t : Tok} {rs : List Tok} (h : sgnOf (t :: rs) ≠ []) : t.kind = 5 ∧ t.text = sgnOf (t :: rs) := by
  by_cases h5 : t.kind = 5
  · simp [sgnOf, h5]
  · exact absurd (by simp [sgnOf, h5]) h
theorem sgn_str {rs : List Tok} {s : List UInt8} : ((mkS (sgnOf rs)).toList == s) = decide (sgnOf rs = s) := by
  rw [Go.ByteArray.toList_eq]
  by_cases h : sgnOf rs = s <;> simp [mkS, h]
set_option maxRecDepth 100000 in
set_option maxHeartbeats 3200000 in
theorem within_any {R g o c d : Nat} {t : Tok} {rs : List Tok} {w : World} (h : SR R g o c d (t :: rs) w) (hd : d ≤ 24) (hE : EndsT (t :: rs)) (hk : t.kind ≠ 6) (IH : ChoiceC R g rs) :
    Calls Tryz.prog 135 #[.pointer (some ⟨R, 0, none⟩)] w (fun e w' => ∃ f r, (if d = 24 then some (.err 2 t.pos) else match pChoice f (d + 1) rs with
        | none => none
        | some (.err c x) => some (.err c x)
        | some (.ok n rs2) => if sgnOf rs2 = [41] then some (.ok n rs2.tail) else some (.err (badE rs2) (posT rs2))) = some r ∧ NdP R g d rs.length w e w' r) := by
  obtain ⟨u, l, rfl, hE2⟩ := hE.more hk
  obtain ⟨c0, c1, fz⟩ := h.cells
  have HH := Lib.hid h
  have qR := h.ltR
  have qg := h.lt
  have HC := Lib.hid IH
  have HE := Lib.hid hE2
  clear h hE hE2 IH
  by_cases h24 : d = 24
  · subst h24
    go_enter Tryz.func135, Tryz.ntmps135
    have hm1 := cell_alloc_lt; have hm2 := frozen_alloc_lt; have hm3 := cell_set_lt; have hm4 := cell_set_gt
    repeat (first | go_values | go_skip | go_guarded | go_step | go_upon)
    refine (stop_any (HH.out.alloc _) 2).mono ?_
    rintro e w1 ⟨⟨p, rfl, hp, hl⟩, hb1⟩
    dsimp only
    repeat (first | go_values | go_skip | go_guarded | go_step | go_upon)
    simp only [World.size_alloc] at hl
    refine ⟨rfl, 0, .err 2 t.pos, by simp, ⟨p, rfl, hp, by omega⟩, below_gby _ (by repeat (first | exact Below.refl _ _ | assumption | refine bal ?_ _ | refine bdr ?_ | refine bdrn ?_ _ | (refine bset ?_ (by first | exact Nat.le_refl _ | (simp; done) | (simp; omega) | omega) _) | refine bstep ?_ (by assumption)))⟩
  · have m1 : ((d : Int) == 24) = false := by simp; omega
    have k5 : IntKind.i64.wrap ((d : Int) + 1) = ((d + 1 : Nat) : Int) := by rw [IntKind.wrap_i64]; omega
    have hm1 := cell_alloc_lt
    have hm2 := frozen_alloc_lt
    have k6 : IntKind.i64.wrap ((d : Int) + 1 - 1) = (d : Int) := by rw [IntKind.wrap_i64]; omega
    go_enter Tryz.func135, Tryz.ntmps135
    repeat (first | go_values | go_skip | go_guarded | go_step | go_upon)
    refine (snext_any ((SR.deep HH.out (d + 1) _ rfl).alloc _)).mono ?_
    rintro e w1 ⟨rfl, h1, g1⟩
    obtain ⟨hcB1, hfB1⟩ := gcell (b := w.heap.size) g1 (by simp) (by omega)
    have z1 := g1.size
    simp only [World.size_alloc, World.size_setCell] at z1
    have H1 := Lib.hid h1
    have G1 := Lib.hid g1
    clear h1 g1
    dsimp only
    repeat (first | go_values | go_skip | go_guarded | go_step | go_upon)
    refine (HC.out _ _ _ _ H1.out (by omega) HE.out).mono ?_
    rintro e w2 ⟨f, r, hf, hr⟩
    cases r with
    | err ec ex =>
      obtain ⟨⟨p, rfl, hp, hl⟩, g2⟩ := hr
      dsimp only
      repeat (first | go_values | go_skip | go_guarded | go_step | go_upon)
      refine ⟨rfl, f, .err ec ex, by rw [if_neg h24, hf], ⟨p, rfl, hp, by omega⟩, ?_⟩
      exact ((gby_alloc (gsetk w ⟨R, 1, none⟩ _) _).trans G1.out).trans g2
    | ok n rs2 =>
      obtain ⟨cc, rfl, hrep, ⟨o2, c2, h2⟩, g2, hE3, hlen⟩ := hr
      obtain ⟨u2, l2, rfl⟩ := hE3.ne
      obtain ⟨k0, t0, x0, v0, l0, e1, e2, h3⟩ := hrep.form
      obtain ⟨sa, sn, sc, rfl⟩ := h3.slice
      obtain rfl : cc = (ndC k0 t0 x0 (.slice sa sn sc) n.pos).toArray := by rw [← e2]
      obtain ⟨hcB2, hfB2⟩ := gcell (b := w.heap.size) g2 (by omega) (by omega)
      have z2 := g2.size
      have qR2 : R < w2.heap.size := by omega
      have qB2 : w.heap.size < w2.heap.size := by omega
      obtain ⟨d0, d1, fz2⟩ := h2.cells
      have H2 := Lib.hid h2
      have G2 := Lib.hid g2
      have HR := Lib.hid hrep
      have HF := Lib.hid hf
      have hl2 : (u2 :: l2).length ≤ (u :: l).length := hlen
      clear h2 g2 hrep hf e1 e2 h3 hlen
      dsimp only [ndC]
      by_cases hs : sgnOf (u2 :: l2) = [41]
      · obtain ⟨hk5, _⟩ := sgn_kind (t := u2) (rs := l2) (by rw [hs]; decide)
        obtain ⟨u3, l3, rfl, hE4⟩ := hE3.more (by omega)
        have HE4 := Lib.hid hE4
        have HS := Lib.hid hs
        clear hs hk5 hE3 hE4
        repeat (first | go_values | go_skip | go_guarded | go_step | go_upon)
        refine (ssign_is (H2.out.alloc _) HS.out).mono ?_
        rintro e w3 ⟨rfl, hb3⟩
        have H3 := Lib.hid ((H2.out.alloc _).below hb3)
        obtain ⟨hcB3, hfB3⟩ := pcell (b := w.heap.size) hb3 (by simp; omega)
        obtain ⟨hcN3, hfN3⟩ := pcell (b := w2.heap.size) hb3 (by simp)
        have z3 := hb3.size
        simp only [World.size_alloc] at z3
        dsimp only
        repeat (first | go_values | go_skip | go_guarded | go_step | go_upon)
        refine (snext_any H3.out).mono ?_
        rintro e w4 ⟨rfl, h4, g4⟩
        obtain ⟨hcB4, hfB4⟩ := gcell (b := w.heap.size) g4 (by omega) (by omega)
        obtain ⟨hcN4, hfN4⟩ := gcell (b := w2.heap.size) g4 (by omega) (by omega)
        obtain ⟨e0, e1, fz4⟩ := h4.cells
        have H4 := Lib.hid h4
        have G4 := Lib.hid g4
        have z4 := g4.size
        clear h4 g4
        dsimp only
        repeat (first | go_values | go_skip | go_guarded | go_step | go_upon)
        refine bodyPost_ret (v := .agg (ndC k0 t0 x0 (.slice sa sn sc) n.pos).toArray) (by simp [ndC, results, Tryz.results135, go_sem, hcB4, hcB3, hcB2, hcB1, hm1, qB2]) rfl ?_
        refine ⟨f, .ok n (u3 :: l3), by rw [if_neg h24, HF.out]; simp only; rw [if_pos HS.out]; rfl, (ndC k0 t0 x0 (.slice sa sn sc) n.pos).toArray, rfl, ?_, ⟨o2 + 7, c2 - 1, ?_⟩, ?_, HE4.out, by simp at hl2 ⊢; omega⟩
        · have r2 := rep_below (rep_alloc HR.out (fun b h => h.2) _) (fun b h => by have := h.hi; simp; omega) hb3
          have r4 := rep_gby r2 (fun b h => by have := h.hi; omega) (fun b h => by have := h.lo; omega) G4.out
          refine rep_wide (P := Fresh w1 w2) ?_ (fun b h => ⟨by have := h.lo; omega, by have := h.hi; simp; omega⟩)
          repeat (with_reducible refine rep_set ?_ (fun b h => by have := h.lo; omega) _ _)
          exact r4
        · repeat (with_reducible refine SR.set ?_ (by omega) (by omega) _ _)
          exact H4.out.deep d _ rfl
        · repeat (with_reducible refine gby_set ?_ (Nat.le_refl _) _ _)
          exact ((gby_below (gby_alloc (((gby_alloc (gsetk w ⟨R, 1, none⟩ _) _).trans G1.out).trans G2.out) _) hb3).trans G4.out).trans (gsetk w4 ⟨R, 1, none⟩ _)
      · have HS := Lib.hid hs
        have s1 : ((mkS (sgnOf (u2 :: l2))).toList == [41]) = false := by rw [sgn_str]; simpa using hs
        clear hs
        repeat (first | go_values | go_skip | go_guarded | go_step | go_upon)
        refine (ssign_any (H2.out.alloc _)).mono ?_
        rintro e w3 ⟨rfl, hb3⟩
        have H3 := Lib.hid ((H2.out.alloc _).below hb3)
        have z3 := hb3.size
        simp only [World.size_alloc] at z3
        dsimp only
        repeat (first | go_values | go_skip | go_guarded | go_step | go_upon)
        refine (swrong_any H3.out).mono ?_
        rintro e w4 ⟨⟨p, rfl, hp, hl⟩, hb4⟩
        dsimp only
        repeat (first | go_values | go_skip | go_guarded | go_step | go_upon)
        refine ⟨rfl, f, .err (badE (u2 :: l2)) u2.pos, by rw [if_neg h24, HF.out]; simp only; rw [if_neg HS.out]; rfl, ⟨p, rfl, hp, by omega⟩, ?_⟩
        exact gby_below (gby_below (gby_alloc (((gby_alloc (gsetk w ⟨R, 1, none⟩ _) _).trans G1.out).trans G2.out) _) hb3) hb4
end Go.Proofs.YtjlcoldnhbkcgaaGreatDoor
