/- Two trees compared: where they are the same, with or without their places. | Two grammars compared: where they are the same, with or without their places. | Parse of any source; the syntax laws' small case; Same of grammars as they lie. | What is read of a name with signs about it: plain. | The walk of the syntax laws' small case. -/
import Derived.Test.YtcogimlekmnpjaaDoorG22
import Derived.Test.YtcogimlekmnpjaaDoorG16
import Derived.Test.YtcogimlekmnpjaaDoorG23
namespace Go.Proofs.YtcogimlekmnpjaaDoor
open Go.RowKit Go.Sort

mutual
/-- The same tree; with its places, if asked for. -/
inductive SameN (at_ : Bool) : Nd → Nd → Prop
  | mk {k p p' : Nat} {t : List UInt8} {c : BitVec 256} {l l' : List Nd} : (at_ = true → p = p') → SameL at_ l l' → SameN at_ (.mk k t c l p) (.mk k t c l' p')
inductive SameL (at_ : Bool) : List Nd → List Nd → Prop
  | nil : SameL at_ [] []
  | cons {n n' : Nd} {l l' : List Nd} : SameN at_ n n' → SameL at_ l l' → SameL at_ (n :: l) (n' :: l')
end
mutual
theorem SameN.refl (b : Bool) : ∀ n : Nd, SameN b n n
  | .mk _ _ _ l _ => .mk (fun _ => rfl) (SameL.refl b l)
theorem SameL.refl (b : Bool) : ∀ l : List Nd, SameL b l l
  | [] => .nil
  | n :: l => .cons (SameN.refl b n) (SameL.refl b l)
end
theorem SameL.length {b : Bool} {l l' : List Nd} (h : SameL b l l') : l.length = l'.length := by
  induction l generalizing l' with
  | nil => cases h; rfl
  | cons n l ih => cases h with
    | cons h1 h2 => simp [ih h2]
theorem SameL.get {b : Bool} {l l' : List Nd} (h : SameL b l l') {k : Nat} {n n' : Nd} (h1 : l[k]? = some n) (h2 : l'[k]? = some n') : SameN b n n' := by
  induction l generalizing l' k with
  | nil => cases h; simp at h1
  | cons m l ih => cases h with
    | cons g1 g2 =>
      cases k with
      | zero => simp at h1 h2; rw [← h1, ← h2]; exact g1
      | succ k => exact ih g2 (by simpa using h1) (by simpa using h2)
theorem SameL.snoc {b : Bool} {l l' : List Nd} (h : SameL b l l') {n n' : Nd} (hn : SameN b n n') : SameL b (l ++ [n]) (l' ++ [n']) := by
  induction l generalizing l' with
  | nil => cases h; exact .cons hn .nil
  | cons m l ih => cases h with
    | cons g1 g2 => exact .cons g1 (ih g2)
/-- The cells of a tree in a row. -/
theorem Reps.get {w : World} {P : Nat → Prop} {l : List Nd} {cs : List Value} (h : Reps w P l cs) {k : Nat} {n : Nd} (hk : l[k]? = some n) : ∃ c, Rep w P n c ∧ ∀ j, j < 8 → cs[k * 8 + j]? = c[j]? := by
  induction l generalizing cs k with
  | nil => simp at hk
  | cons m l ih =>
    cases h with
    | cons h1 h2 =>
      cases k with
      | zero =>
        simp at hk
        subst hk
        refine ⟨_, h1, fun j hj => ?_⟩
        rw [List.getElem?_append_left (by cases h1; simp [ndC]; omega)]
        simp
      | succ k =>
        obtain ⟨c, g1, g2⟩ := ih h2 (by simpa using hk)
        refine ⟨c, g1, fun j hj => ?_⟩
        rw [List.getElem?_append_right (by cases h1; simp [ndC]; omega), ← g2 j hj]
        congr 1
        cases h1
        simp [ndC]
        omega
/-- A tree's part, as its cells lie in the row. -/
theorem reps_cells {w : World} {P : Nat → Prop} {l : List Nd} {g : Nat} {cur : Array Value} {n : Nat} (hn : l.length = n) (hcur : w.heap[g]? = some (.cells cur 36 (0, 0))) (h : Reps w P l (cur.toList.take (n * 8))) {k : Nat} {x : Nd} (hk : l[k]? = some x) :
    ∃ a t c sa sn sc, Rep w P x (ndC a t c (.slice sa sn sc) x.pos) ∧ w.cell? ⟨g, k * 8, none⟩ = some (.int .i64 (a : Int)) ∧ w.cell? ⟨g, k * 8 + 1, none⟩ = some (.string (mkS t)) ∧ w.cell? ⟨g, k * 8 + 2, none⟩ = some (.int .u64 (wd c 0)) ∧ w.cell? ⟨g, k * 8 + 3, none⟩ = some (.int .u64 (wd c 1)) ∧ w.cell? ⟨g, k * 8 + 4, none⟩ = some (.int .u64 (wd c 2)) ∧ w.cell? ⟨g, k * 8 + 5, none⟩ = some (.int .u64 (wd c 3)) ∧ w.cell? ⟨g, k * 8 + 6, none⟩ = some (.slice sa sn sc) ∧ w.cell? ⟨g, k * 8 + 7, none⟩ = some (.int .i64 (x.pos : Int)) := by
  obtain ⟨c, h1, h2⟩ := h.get hk
  obtain ⟨a, t, y, v, l', e1, e2, h3⟩ := h1.form
  obtain ⟨sa, sn, sc, rfl⟩ := h3.slice
  subst e2
  have hlt : k < n := by rw [← hn]; exact (List.getElem?_eq_some_iff.1 hk).1
  have key : ∀ j, j < 8 → w.cell? ⟨g, k * 8 + j, none⟩ = (ndC a t y (.slice sa sn sc) x.pos)[j]? := fun j hj => by
    rw [(cells_at hcur).1, ← h2 j hj, List.getElem?_take, if_pos (by omega), Array.getElem?_toList]
  exact ⟨a, t, y, sa, sn, sc, h1, key 0 (by decide), key 1 (by decide), key 2 (by decide), key 3 (by decide), key 4 (by decide), key 5 (by decide), key 6 (by decide), key 7 (by decide)⟩
theorem RepS.parts {w : World} {P : Nat → Prop} {l : List Nd} {v : Value} (h : RepS w P l v) : (l = [] ∧ v = .slice none 0 0) ∨ ∃ g cap cur, v = .slice (some ⟨g, 0, none⟩) l.length cap ∧ P g ∧ w.heap[g]? = some (.cells cur 36 (0, 0)) ∧ 0 < l.length ∧ l.length ≤ cap ∧ l.length ≤ maxLen ∧ Reps w P l (cur.toList.take (l.length * 8)) := by
  cases h with
  | nil => exact .inl ⟨rfl, rfl⟩
  | row h1 h2 h3 h4 hm h5 h6 => subst h5; exact .inr ⟨_, _, _, rfl, h1, h2, h3, h4, hm, h6⟩
/-- Below a number of blocks. -/
theorem Rep.on {w w' : World} {P : Nat → Prop} {n : Nd} {c : List Value} (h : Rep w P n c) (hP : ∀ b, P b → b < w.heap.size) (hb : Below w.heap.size w w') : Rep w' P n c := h.mono (fun b hb' => hb.block b (hP b hb')) (fun _ h => h)
/-- The contract of SameNode at a tree. -/
def SameC (at_ : Bool) (n : Nd) : Prop := ∀ (m : Nd) (w : World) (P P' : Nat → Prop) (c c' : List Value), SameN at_ n m → Rep w P n c → Rep w P' m c' → (∀ b, P b → b < w.heap.size) → (∀ b, P' b → b < w.heap.size) →
  Calls Tryd.prog 6 #[.agg c.toArray, .agg c'.toArray, .bool at_] w (Ans (.bool true) w)
set_option maxRecDepth 100000 in
set_option maxHeartbeats 3200000 in
theorem same_leaf (at_ : Bool) {k p p' : Nat} {t : List UInt8} {x : BitVec 256} (w : World) (hp : at_ = true → p = p') :
    Calls Tryd.prog 6 #[.agg (ndC k t x (.slice none 0 0) p).toArray, .agg (ndC k t x (.slice none 0 0) p').toArray, .bool at_] w (Ans (.bool true) w) := by
  have f8 := guard_cl
  have f9 := equal_cl
  have hm1 := cell_alloc_lt
  dsimp only [ndC]
  cases at_ with
  | false =>
    clear hp
    go_enter Tryd.func6, Tryd.ntmps6
    repeat (first | go_values | go_skip | go_guarded | go_step | go_upon)
    refine wp_loop_rounds 1 ?_
    rw [rounds_succ]
    repeat (first | go_values | go_skip | go_guarded | go_step | go_upon)
    go_ret
    exact ⟨rfl, (by repeat (first | exact Below.refl _ _ | assumption | refine bal ?_ _ | refine bdr ?_ | refine bdrn ?_ _ | (refine bset ?_ (by first | exact Nat.le_refl _ | (simp; done) | (simp; omega) | omega) _) | refine bstep ?_ (by assumption)))⟩
  | true =>
    obtain rfl := hp rfl
    go_enter Tryd.func6, Tryd.ntmps6
    repeat (first | go_values | go_skip | go_guarded | go_step | go_upon)
    refine wp_loop_rounds 1 ?_
    rw [rounds_succ]
    repeat (first | go_values | go_skip | go_guarded | go_step | go_upon)
    go_ret
    exact ⟨rfl, (by repeat (first | exact Below.refl _ _ | assumption | refine bal ?_ _ | refine bdr ?_ | refine bdrn ?_ _ | (refine bset ?_ (by first | exact Nat.le_refl _ | (simp; done) | (simp; omega) | omega) _) | refine bstep ?_ (by assumption)))⟩
set_option maxRecDepth 100000 in
set_option maxHeartbeats 6400000 in
theorem same_row (at_ : Bool) {k p p' n g g' cap cap' : Nat} {t : List UInt8} {x : BitVec 256} {l l' : List Nd} {cur cur' : Array Value} {P P' : Nat → Prop} (w : World) (hp : at_ = true → p = p') (hl : SameL at_ l l') (hn : l.length = n) (_ : n ≤ cap) (_ : n ≤ cap') (hmax : n ≤ maxLen) (h1 : w.heap[g]? = some (.cells cur 36 (0, 0))) (h2 : w.heap[g']? = some (.cells cur' 36 (0, 0))) (r1 : Reps w P l (cur.toList.take (n * 8))) (r2 : Reps w P' l' (cur'.toList.take (n * 8))) (hP : ∀ b, P b → b < w.heap.size) (hP' : ∀ b, P' b → b < w.heap.size) (IH : ∀ m ∈ l, SameC at_ m) :
    Calls Tryd.prog 6 #[.agg (ndC k t x (.slice (some ⟨g, 0, none⟩) n cap) p).toArray, .agg (ndC k t x (.slice (some ⟨g', 0, none⟩) n cap') p').toArray, .bool at_] w (Ans (.bool true) w) := by
  have f8 := guard_cl
  have f9 := equal_cl
  have hm1 := cell_alloc_lt
  have HL := Lib.hid hl
  have HN := Lib.hid hn
  have hn' : l'.length = n := by rw [← hl.length]; exact hn
  have HN' := Lib.hid hn'
  have R1 := Lib.hid r1
  have R2 := Lib.hid r2
  have H1 := Lib.hid h1
  have H2 := Lib.hid h2
  have HP := Lib.hid hP
  have HP' := Lib.hid hP'
  have HI := Lib.hid IH
  unfold maxLen at hmax
  clear hl hn hn' r1 r2 h1 h2 hP hP' IH
  dsimp only [ndC]
  cases at_ with
  | false =>
    clear hp
    go_enter Tryd.func6, Tryd.ntmps6
    repeat (first | go_values | go_skip | go_guarded | go_step | go_upon)
    go_loopw [7] (fun tt wr => ∃ j : Nat, tt = .int .i64 (j : Int) ∧ j ≤ n ∧ Below ((w.alloc (.cells #[.int .i64 (k : Int), .string (mkS t), .int .u64 (wd x 0), .int .u64 (wd x 1), .int .u64 (wd x 2), .int .u64 (wd x 3), .slice (some ⟨g, 0, none⟩) n cap, .int .i64 (p : Int)] 36)).alloc (.cells #[.int .i64 (k : Int), .string (mkS t), .int .u64 (wd x 0), .int .u64 (wd x 1), .int .u64 (wd x 2), .int .u64 (wd x 3), .slice (some ⟨g', 0, none⟩) n cap', .int .i64 (p' : Int)] 36)).heap.size ((w.alloc (.cells #[.int .i64 (k : Int), .string (mkS t), .int .u64 (wd x 0), .int .u64 (wd x 1), .int .u64 (wd x 2), .int .u64 (wd x 3), .slice (some ⟨g, 0, none⟩) n cap, .int .i64 (p : Int)] 36)).alloc (.cells #[.int .i64 (k : Int), .string (mkS t), .int .u64 (wd x 0), .int .u64 (wd x 1), .int .u64 (wd x 2), .int .u64 (wd x 3), .slice (some ⟨g', 0, none⟩) n cap', .int .i64 (p' : Int)] 36)) wr) (fun tt _ => n - (intOf tt).toNat)
    case atStart => exact ⟨0, rfl, Nat.zero_le _, Below.refl _ _⟩
    case round =>
      obtain ⟨j, rfl, hj, hbr⟩ := hrel
      have HB := Lib.hid hbr
      have hA := (hbr.block w.heap.size (by simp; omega)).trans ((RowKit.Below.heap_alloc _ _ _ (by simp)).trans (heap_alloc_new w (.cells #[.int .i64 (k : Int), .string (mkS t), .int .u64 (wd x 0), .int .u64 (wd x 1), .int .u64 (wd x 2), .int .u64 (wd x 3), .slice (some ⟨g, 0, none⟩) n cap, .int .i64 (p : Int)] 36)))
      have hB := (hbr.block (w.heap.size + 1) (by simp)).trans (alloc2_new w (.cells #[.int .i64 (k : Int), .string (mkS t), .int .u64 (wd x 0), .int .u64 (wd x 1), .int .u64 (wd x 2), .int .u64 (wd x 3), .slice (some ⟨g, 0, none⟩) n cap, .int .i64 (p : Int)] 36) (.cells #[.int .i64 (k : Int), .string (mkS t), .int .u64 (wd x 0), .int .u64 (wd x 1), .int .u64 (wd x 2), .int .u64 (wd x 3), .slice (some ⟨g', 0, none⟩) n cap', .int .i64 (p' : Int)] 36))
      have s1 : wr.cell? ⟨w.heap.size, 6, none⟩ = some (.slice (some ⟨g, 0, none⟩) n cap) := (cells_at hA).1 6
      have s2 : wr.cell? ⟨w.heap.size + 1, 6, none⟩ = some (.slice (some ⟨g', 0, none⟩) n cap') := (cells_at hB).1 6
      have hw : Below w.heap.size w wr := (bal (bal (Below.refl _ w) _) _).trans (hbr.mono (by simp; omega))
      have HW := Lib.hid hw
      clear hA hB hbr hw
      by_cases hlt : j < n
      · obtain ⟨y, hy⟩ : ∃ y, l[j]? = some y := ⟨l[j]'(by rw [HN.out]; exact hlt), List.getElem?_eq_getElem (by rw [HN.out]; exact hlt)⟩
        obtain ⟨y', hy'⟩ : ∃ y', l'[j]? = some y' := ⟨l'[j]'(by rw [HN'.out]; exact hlt), List.getElem?_eq_getElem (by rw [HN'.out]; exact hlt)⟩
        obtain ⟨k1, t1, x1, sa, sn, sc, q0, a0, a1, a2, a3, a4, a5, a6, a7⟩ := reps_cells HN.out ((HW.out.block g (Array.getElem?_eq_some_iff.1 H1.out).1).trans H1.out) (R1.out.mono (fun b hb => HW.out.block b (HP.out b hb)) (fun _ h => h)) hy
        obtain ⟨k2, t2, x2, sa2, sn2, sc2, q0', b0, b1, b2, b3, b4, b5, b6, b7⟩ := reps_cells HN'.out ((HW.out.block g' (Array.getElem?_eq_some_iff.1 H2.out).1).trans H2.out) (R2.out.mono (fun b hb => HW.out.block b (HP'.out b hb)) (fun _ h => h)) hy'
        have hz := HW.out.size
        have HC := Lib.hid (fun (w' : World) (e : w'.heap = wr.heap) => HI.out y (List.mem_of_getElem? hy) y' w' P P' _ _ (HL.out.get hy hy') (q0.mono (w' := w') (fun b _ => by rw [e]) (fun _ h => h)) (q0'.mono (w' := w') (fun b _ => by rw [e]) (fun _ h => h)) (fun b hb => by rw [e]; exact Nat.lt_of_lt_of_le (HP.out b hb) hz) (fun b hb => by rw [e]; exact Nat.lt_of_lt_of_le (HP'.out b hb) hz))
        clear hy hy' q0 q0'
        have d1 : decide ((j : Int) < n) = true := by simpa using hlt
        repeat (first | go_values | go_skip | go_guarded | go_step | go_upon)
        go_still_tail 11, (by kernel_rfl)
        repeat (first | go_values | go_skip | go_guarded | go_step | go_upon)
        refine (HC.out wr.drew rfl).mono ?_
        rintro e w1 ⟨rfl, hb1⟩
        dsimp only
        repeat (first | go_values | go_skip | go_guarded | go_step | go_upon)
        exact ⟨⟨j + 1, by go_num, by omega, HB.out.trans ((drew_below wr).trans (hb1.mono (by simp)) |>.mono (by have := HB.out.size; simpa using this))⟩, by simp [intOf]; omega⟩
      · have d1 : decide (j < n) = false := by simpa using hlt
        clear hlt
        repeat (first | go_values | go_skip | go_guarded | go_step | go_upon)
        go_ret
        exact ⟨rfl, (bal (bal (Below.refl _ w) _) _).trans (HB.out.mono (by simp; omega))⟩
  | true =>
    obtain rfl := hp rfl
    clear hp
    go_enter Tryd.func6, Tryd.ntmps6
    repeat (first | go_values | go_skip | go_guarded | go_step | go_upon)
    go_loopw [7] (fun tt wr => ∃ j : Nat, tt = .int .i64 (j : Int) ∧ j ≤ n ∧ Below ((w.alloc (.cells #[.int .i64 (k : Int), .string (mkS t), .int .u64 (wd x 0), .int .u64 (wd x 1), .int .u64 (wd x 2), .int .u64 (wd x 3), .slice (some ⟨g, 0, none⟩) n cap, .int .i64 (p : Int)] 36)).alloc (.cells #[.int .i64 (k : Int), .string (mkS t), .int .u64 (wd x 0), .int .u64 (wd x 1), .int .u64 (wd x 2), .int .u64 (wd x 3), .slice (some ⟨g', 0, none⟩) n cap', .int .i64 (p : Int)] 36)).heap.size ((w.alloc (.cells #[.int .i64 (k : Int), .string (mkS t), .int .u64 (wd x 0), .int .u64 (wd x 1), .int .u64 (wd x 2), .int .u64 (wd x 3), .slice (some ⟨g, 0, none⟩) n cap, .int .i64 (p : Int)] 36)).alloc (.cells #[.int .i64 (k : Int), .string (mkS t), .int .u64 (wd x 0), .int .u64 (wd x 1), .int .u64 (wd x 2), .int .u64 (wd x 3), .slice (some ⟨g', 0, none⟩) n cap', .int .i64 (p : Int)] 36)) wr) (fun tt _ => n - (intOf tt).toNat)
    case atStart => exact ⟨0, rfl, Nat.zero_le _, Below.refl _ _⟩
    case round =>
      obtain ⟨j, rfl, hj, hbr⟩ := hrel
      have HB := Lib.hid hbr
      have hA := (hbr.block w.heap.size (by simp; omega)).trans ((RowKit.Below.heap_alloc _ _ _ (by simp)).trans (heap_alloc_new w (.cells #[.int .i64 (k : Int), .string (mkS t), .int .u64 (wd x 0), .int .u64 (wd x 1), .int .u64 (wd x 2), .int .u64 (wd x 3), .slice (some ⟨g, 0, none⟩) n cap, .int .i64 (p : Int)] 36)))
      have hB := (hbr.block (w.heap.size + 1) (by simp)).trans (alloc2_new w (.cells #[.int .i64 (k : Int), .string (mkS t), .int .u64 (wd x 0), .int .u64 (wd x 1), .int .u64 (wd x 2), .int .u64 (wd x 3), .slice (some ⟨g, 0, none⟩) n cap, .int .i64 (p : Int)] 36) (.cells #[.int .i64 (k : Int), .string (mkS t), .int .u64 (wd x 0), .int .u64 (wd x 1), .int .u64 (wd x 2), .int .u64 (wd x 3), .slice (some ⟨g', 0, none⟩) n cap', .int .i64 (p : Int)] 36))
      have s1 : wr.cell? ⟨w.heap.size, 6, none⟩ = some (.slice (some ⟨g, 0, none⟩) n cap) := (cells_at hA).1 6
      have s2 : wr.cell? ⟨w.heap.size + 1, 6, none⟩ = some (.slice (some ⟨g', 0, none⟩) n cap') := (cells_at hB).1 6
      have hw : Below w.heap.size w wr := (bal (bal (Below.refl _ w) _) _).trans (hbr.mono (by simp; omega))
      have HW := Lib.hid hw
      clear hA hB hbr hw
      by_cases hlt : j < n
      · obtain ⟨y, hy⟩ : ∃ y, l[j]? = some y := ⟨l[j]'(by rw [HN.out]; exact hlt), List.getElem?_eq_getElem (by rw [HN.out]; exact hlt)⟩
        obtain ⟨y', hy'⟩ : ∃ y', l'[j]? = some y' := ⟨l'[j]'(by rw [HN'.out]; exact hlt), List.getElem?_eq_getElem (by rw [HN'.out]; exact hlt)⟩
        obtain ⟨k1, t1, x1, sa, sn, sc, q0, a0, a1, a2, a3, a4, a5, a6, a7⟩ := reps_cells HN.out ((HW.out.block g (Array.getElem?_eq_some_iff.1 H1.out).1).trans H1.out) (R1.out.mono (fun b hb => HW.out.block b (HP.out b hb)) (fun _ h => h)) hy
        obtain ⟨k2, t2, x2, sa2, sn2, sc2, q0', b0, b1, b2, b3, b4, b5, b6, b7⟩ := reps_cells HN'.out ((HW.out.block g' (Array.getElem?_eq_some_iff.1 H2.out).1).trans H2.out) (R2.out.mono (fun b hb => HW.out.block b (HP'.out b hb)) (fun _ h => h)) hy'
        have hz := HW.out.size
        have HC := Lib.hid (fun (w' : World) (e : w'.heap = wr.heap) => HI.out y (List.mem_of_getElem? hy) y' w' P P' _ _ (HL.out.get hy hy') (q0.mono (w' := w') (fun b _ => by rw [e]) (fun _ h => h)) (q0'.mono (w' := w') (fun b _ => by rw [e]) (fun _ h => h)) (fun b hb => by rw [e]; exact Nat.lt_of_lt_of_le (HP.out b hb) hz) (fun b hb => by rw [e]; exact Nat.lt_of_lt_of_le (HP'.out b hb) hz))
        clear hy hy' q0 q0'
        have d1 : decide ((j : Int) < n) = true := by simpa using hlt
        repeat (first | go_values | go_skip | go_guarded | go_step | go_upon)
        go_still_tail 11, (by kernel_rfl)
        repeat (first | go_values | go_skip | go_guarded | go_step | go_upon)
        refine (HC.out wr.drew rfl).mono ?_
        rintro e w1 ⟨rfl, hb1⟩
        dsimp only
        repeat (first | go_values | go_skip | go_guarded | go_step | go_upon)
        exact ⟨⟨j + 1, by go_num, by omega, HB.out.trans ((drew_below wr).trans (hb1.mono (by simp)) |>.mono (by have := HB.out.size; simpa using this))⟩, by simp [intOf]; omega⟩
      · have d1 : decide (j < n) = false := by simpa using hlt
        clear hlt
        repeat (first | go_values | go_skip | go_guarded | go_step | go_upon)
        go_ret
        exact ⟨rfl, (bal (bal (Below.refl _ w) _) _).trans (HB.out.mono (by simp; omega))⟩
/-- The contract of SameNode, where two trees are the same. -/
theorem same_node (at_ : Bool) : ∀ (k : Nat) (n : Nd), SizeOf.sizeOf n ≤ k → SameC at_ n := by
  intro k
  induction k with
  | zero => intro n hn; cases n; simp at hn
  | succ k ih =>
    intro n hn m w P P' c c' hs h1 h2 hP hP'
    cases hs with
    | mk hp hl =>
      rename_i kk p p' t x l l'
      cases h1 with
      | mk r1 =>
        cases h2 with
        | mk r2 =>
          rcases r1.parts with ⟨rfl, rfl⟩ | ⟨g, cap, cur, rfl, hg, hh, hpos, hcap, hmax, hr⟩
          · rcases r2.parts with ⟨rfl, rfl⟩ | ⟨g', cap', cur', rfl, hg', hh', hpos', hcap', hmax', hr'⟩
            · exact same_leaf at_ w hp
            · have := hl.length; rw [List.length_nil] at this; omega
          · rcases r2.parts with ⟨rfl, rfl⟩ | ⟨g', cap', cur', rfl, hg', hh', hpos', hcap', hmax', hr'⟩
            · have := hl.length; rw [List.length_nil] at this; omega
            · have hle := hl.length
              rw [← hle] at hcap' hr' ⊢
              exact same_row at_ w hp hl rfl hcap hcap' hmax hh hh' hr hr' hP hP' (fun m hm => ih m (by
                have e1 : SizeOf.sizeOf m < SizeOf.sizeOf l := List.sizeOf_lt_of_mem hm
                rw [Nd.mk.sizeOf_spec] at hn
                omega))
theorem same_any (at_ : Bool) (n : Nd) : SameC at_ n := same_node at_ (SizeOf.sizeOf n) n (Nat.le_refl _)
end Go.Proofs.YtcogimlekmnpjaaDoor
namespace Go.Proofs.YtcogimlekmnpjaaDoor
open Go.RowKit Go.Sort

/-- The same rules; with their places, if asked for. -/
inductive SameG (at_ : Bool) : List Ru → List Ru → Prop
  | nil : SameG at_ [] []
  | cons {n : List UInt8} {b b' : Nd} {p p' : Nat} {l l' : List Ru} : SameN at_ b b' → (at_ = true → p = p') → SameG at_ l l' → SameG at_ (⟨n, b, p⟩ :: l) (⟨n, b', p'⟩ :: l')
theorem SameG.refl (b : Bool) (l : List Ru) : SameG b l l := by
  induction l with
  | nil => exact .nil
  | cons x l ih => exact .cons (SameN.refl b _) (fun _ => rfl) ih
theorem SameG.length {b : Bool} {l l' : List Ru} (h : SameG b l l') : l.length = l'.length := by
  induction h with
  | nil => rfl
  | cons _ _ _ ih => simp [ih]
theorem SameG.get {b : Bool} {l l' : List Ru} (h : SameG b l l') {k : Nat} {x x' : Ru} (h1 : l[k]? = some x) (h2 : l'[k]? = some x') : x.name = x'.name ∧ SameN b x.body x'.body ∧ (b = true → x.pos = x'.pos) := by
  induction h generalizing k with
  | nil => simp at h1
  | cons g1 g2 g3 ih =>
    cases k with
    | zero => simp at h1 h2; rw [← h1, ← h2]; exact ⟨rfl, g1, g2⟩
    | succ k => exact ih (by simpa using h1) (by simpa using h2)
theorem SameG.append {b : Bool} {l l' m m' : List Ru} (h : SameG b l l') (h2 : SameG b m m') : SameG b (l ++ m) (l' ++ m') := by
  induction h with
  | nil => exact h2
  | cons g1 g2 g3 ih => exact .cons g1 g2 ih
/-- The cells of a rule in a row. -/
theorem RuReps.get {w : World} {P : Nat → Prop} {l : List Ru} {cs : List Value} (h : RuReps w P l cs) {k : Nat} {x : Ru} (hk : l[k]? = some x) : ∃ c, Rep w P x.body c ∧ ∀ j, j < 10 → cs[k * 10 + j]? = (Value.string (mkS x.name) :: (c ++ [.int .i64 (x.pos : Int)]))[j]? := by
  induction h generalizing k with
  | nil => simp at hk
  | cons h1 h2 ih =>
    cases k with
    | zero =>
      simp at hk
      subst hk
      refine ⟨_, h1, fun j hj => ?_⟩
      rw [List.getElem?_append_left (by simp [h1.length]; omega)]
      simp
    | succ k =>
      obtain ⟨c, g1, g2⟩ := ih (by simpa using hk)
      refine ⟨c, g1, fun j hj => ?_⟩
      rw [List.getElem?_append_right (by simp [h1.length]; omega), ← g2 j hj]
      congr 1
      simp [h1.length]
      omega
theorem rule_cells {w : World} {P : Nat → Prop} {l : List Ru} {g : Nat} {cur : Array Value} {cs : List Value} {n : Nat} (hn : l.length = n) (hcur : w.heap[g]? = some (.cells cur 39 (0, 0))) (ht : cur.toList.take (n * 10) = cs) (h : RuReps w P l cs) {k : Nat} {x : Ru} (hk : l[k]? = some x) :
    ∃ a t c sa sn sc, Rep w P x.body (ndC a t c (.slice sa sn sc) x.body.pos) ∧ w.cell? ⟨g, k * 10, none⟩ = some (.string (mkS x.name)) ∧ w.cell? ⟨g, k * 10 + 1, none⟩ = some (.int .i64 (a : Int)) ∧ w.cell? ⟨g, k * 10 + 1 + 1, none⟩ = some (.string (mkS t)) ∧ w.cell? ⟨g, k * 10 + 1 + 2, none⟩ = some (.int .u64 (wd c 0)) ∧ w.cell? ⟨g, k * 10 + 1 + 3, none⟩ = some (.int .u64 (wd c 1)) ∧ w.cell? ⟨g, k * 10 + 1 + 4, none⟩ = some (.int .u64 (wd c 2)) ∧ w.cell? ⟨g, k * 10 + 1 + 5, none⟩ = some (.int .u64 (wd c 3)) ∧ w.cell? ⟨g, k * 10 + 1 + 6, none⟩ = some (.slice sa sn sc) ∧ w.cell? ⟨g, k * 10 + 1 + 7, none⟩ = some (.int .i64 (x.body.pos : Int)) ∧ w.cell? ⟨g, k * 10 + 9, none⟩ = some (.int .i64 (x.pos : Int)) := by
  subst ht
  obtain ⟨c, h1, h2⟩ := h.get hk
  obtain ⟨a, t, y, v, l', e1, e2, h3⟩ := h1.form
  obtain ⟨sa, sn, sc, rfl⟩ := h3.slice
  subst e2
  have hlt : k < n := by rw [← hn]; exact (List.getElem?_eq_some_iff.1 hk).1
  have key : ∀ j, j < 10 → w.cell? ⟨g, k * 10 + j, none⟩ = (Value.string (mkS x.name) :: (ndC a t y (.slice sa sn sc) x.body.pos ++ [.int .i64 (x.pos : Int)]))[j]? := fun j hj => by
    rw [(cells_at hcur).1, ← h2 j hj, List.getElem?_take, if_pos (by omega), Array.getElem?_toList]
  exact ⟨a, t, y, sa, sn, sc, h1, key 0 (by decide), key 1 (by decide), key 2 (by decide), key 3 (by decide), key 4 (by decide), key 5 (by decide), key 6 (by decide), key 7 (by decide), key 8 (by decide), key 9 (by decide)⟩
theorem below_drew2 {w w1 : World} (h : Below w.drew.heap.size w.drew w1) : Below w.heap.size w w1.drew := ((drew_below w).trans h).trans ((drew_below w1).mono (by have := h.size; simpa using this))
end Go.Proofs.YtcogimlekmnpjaaDoor
namespace Go.Proofs.YtcogimlekmnpjaaDoor
open Go.RowKit Go.Sort

theorem syn_any (S : ByteArray) (w : World) (hg : Laid w) (hs : S.size ≤ 140737488355328) : Calls Tryd.prog 5 #[.string S] w (ParseP (bl S) w) := by
  cases h : lexed (bl S) with
  | inl er => exact syn_no S w hg hs h
  | inr l => exact syn_ok S w hg h
/-- Where it is known what a source is read as. -/
theorem syn_inr (S : ByteArray) (w : World) (hg : Laid w) (hs : S.size ≤ 140737488355328) {g : List Ru} (h : Reads (bl S) (.inr g)) : Calls Tryd.prog 5 #[.string S] w (fun e w' => (∃ v, e = .returned (.tuple #[.agg #[v], .nilIface]) ∧ GRep w' (Fresh w w') g v) ∧ Below w.heap.size w w') := by
  refine (syn_any S w hg hs).mono ?_
  rintro e w' ⟨hb, r, hr, hp⟩
  have := hr.det h
  subst this
  exact ⟨hp, hb⟩
theorem syn_inl (S : ByteArray) (w : World) (hg : Laid w) (hs : S.size ≤ 140737488355328) {c : Nat} {x : Int} (h : Reads (bl S) (.inl (c, x))) : Calls Tryd.prog 5 #[.string S] w (fun e w' => AnsFaultI c x w (fun v => .tuple #[.agg #[.slice none 0 0], v]) e w' ∧ Below w.heap.size w w') := by
  refine (syn_any S w hg hs).mono ?_
  rintro e w' ⟨hb, r, hr, hp⟩
  have := hr.det h
  subst this
  exact ⟨hp, hb⟩
/-- Every source is read as something, if Parse is run at all. -/
theorem reads_one {S : ByteArray} {w : World} (_ : Laid w) (_ : S.size ≤ 140737488355328) {R : Ending → World → Prop} (h : ∀ r, Reads (bl S) r → Calls Tryd.prog 5 #[.string S] w R) (h0 : ∃ r, Reads (bl S) r) : Calls Tryd.prog 5 #[.string S] w R := by
  obtain ⟨r, hr⟩ := h0
  exact h r hr
/-- The small case: a <- 'x' b* b <- [0-9]. -/
def small4L : List UInt8 := [97, 32, 60, 45, 32, 39, 120, 39, 32, 98, 42, 32, 98, 32, 60, 45, 32, 91, 48, 45, 57, 93]
theorem small4_lexed : ∃ c, lexed small4L = .inr [⟨1, [97], 0, 0⟩, ⟨2, [], 0, 2⟩, ⟨3, [120], 0, 5⟩, ⟨1, [98], 0, 9⟩, ⟨5, [42], 0, 10⟩, ⟨1, [98], 0, 12⟩, ⟨2, [], 0, 14⟩, ⟨4, [], c, 17⟩, ⟨6, [], 0, 22⟩] := by
  refine ⟨?_, ?_⟩
  rotate_left
  · refine lexed_toks (by decide) ?_
    unfold toks
    rfl
theorem small4_rules (c : BitVec 256) : pRules 12 [⟨1, [97], 0, 0⟩, ⟨2, [], 0, 2⟩, ⟨3, [120], 0, 5⟩, ⟨1, [98], 0, 9⟩, ⟨5, [42], 0, 10⟩, ⟨1, [98], 0, 12⟩, ⟨2, [], 0, 14⟩, ⟨4, [], c, 17⟩, ⟨6, [], 0, 22⟩] [] = some (.ok [⟨[97], .mk 6 [] 0 [.mk 2 [120] 0 [] 5, .mk 9 [] 0 [.mk 5 [98] 0 [] 9] 9] 5, 0⟩, ⟨[98], .mk 3 [] c [] 17, 12⟩] [⟨6, [], 0, 22⟩]) := by
  simp [pRules, pChoice, pAlts, pParts, pPart, pOne, kindT, posT, sgnOf, preK, sufK, joinN, nameT, Nd.pos]
theorem small4_reads : ∃ c, Reads small4L (.inr [⟨[97], .mk 6 [] 0 [.mk 2 [120] 0 [] 5, .mk 9 [] 0 [.mk 5 [98] 0 [] 9] 9] 5, 0⟩, ⟨[98], .mk 3 [] c [] 17, 12⟩]) := by
  obtain ⟨c, h⟩ := small4_lexed
  refine ⟨c, ?_⟩
  unfold Reads
  rw [h]
  exact ⟨12, .inr ⟨_, _, small4_rules c, rfl⟩⟩
end Go.Proofs.YtcogimlekmnpjaaDoor
namespace Go.Proofs.YtcogimlekmnpjaaDoor
open Go.RowKit Go.Sort

def sigA : Nat → List UInt8
  | 0 => []
  | 1 => [38]
  | _ => [33]
def sigB : Nat → List UInt8
  | 0 => []
  | 1 => [63]
  | 2 => [42]
  | _ => [43]
/-- The source. -/
def sigL (a b : Nat) : List UInt8 := [114, 32, 60, 45, 32] ++ sigA a ++ [98] ++ sigB b
/-- What is read behind the sign, and of it all. -/
def sigM (b p : Nat) : Nd := if b = 0 then .mk 5 [98] 0 [] p else .mk (7 + b) [] 0 [.mk 5 [98] 0 [] p] p
def sigN (a b p q : Nat) : Nd := if a = 0 then sigM b p else .mk (10 + a) [] 0 [sigM b p] q
theorem sigM_same (b p p' : Nat) : SameN false (sigM b p) (sigM b p') := by
  have h : SameN false (.mk 5 [98] 0 [] p) (.mk 5 [98] 0 [] p') := .mk (fun e => by cases e) .nil
  unfold sigM
  split
  · exact h
  · exact .mk (fun e => by cases e) (.cons h .nil)
theorem sigN_same (a b p q p' q' : Nat) : SameN false (sigN a b p q) (sigN a b p' q') := by
  unfold sigN
  split
  · exact sigM_same b p p'
  · exact .mk (fun e => by cases e) (.cons (sigM_same b p p') .nil)
theorem sig_reads {s : List UInt8} {l : List Tok} {g : List Ru} {f : Nat} (hs : s.length ≤ 8192) (hl : toks s = .inr l) (t : Tok) (hp : pRules f l [] = some (.ok g [t])) (_ : t.kind = 6) : Reads s (.inr g) := by
  unfold Reads
  rw [lexed_toks hs hl]
  exact ⟨f, .inr ⟨_, _, hp, rfl⟩⟩
theorem sig_read {a b : Nat} (ha : a ≤ 2) (hb : b ≤ 3) : ∃ p q, Reads (sigL a b) (.inr [⟨[114], sigN a b p q, 0⟩]) := by
  rcases (show a = 0 ∨ a = 1 ∨ a = 2 by omega) with rfl | rfl | rfl
  · rcases (show b = 0 ∨ b = 1 ∨ b = 2 ∨ b = 3 by omega) with rfl | rfl | rfl | rfl
    · refine ⟨5, 0, sig_reads (f := 12) (l := [⟨1, [114], 0, 0⟩, ⟨2, [], 0, 2⟩, ⟨1, [98], 0, 5⟩, ⟨6, [], 0, 6⟩]) (by decide) (by unfold toks; rfl) ⟨6, [], 0, 6⟩ ?_ rfl⟩
      simp [pRules, pChoice, pAlts, pParts, pPart, pOne, kindT, posT, sgnOf, preK, sufK, joinN, nameT, sigN, sigM]
    · refine ⟨5, 0, sig_reads (f := 12) (l := [⟨1, [114], 0, 0⟩, ⟨2, [], 0, 2⟩, ⟨1, [98], 0, 5⟩, ⟨5, [63], 0, 6⟩, ⟨6, [], 0, 7⟩]) (by decide) (by unfold toks; rfl) ⟨6, [], 0, 7⟩ ?_ rfl⟩
      simp [pRules, pChoice, pAlts, pParts, pPart, pOne, kindT, posT, sgnOf, preK, sufK, joinN, nameT, Nd.pos, sigN, sigM]
    · refine ⟨5, 0, sig_reads (f := 12) (l := [⟨1, [114], 0, 0⟩, ⟨2, [], 0, 2⟩, ⟨1, [98], 0, 5⟩, ⟨5, [42], 0, 6⟩, ⟨6, [], 0, 7⟩]) (by decide) (by unfold toks; rfl) ⟨6, [], 0, 7⟩ ?_ rfl⟩
      simp [pRules, pChoice, pAlts, pParts, pPart, pOne, kindT, posT, sgnOf, preK, sufK, joinN, nameT, Nd.pos, sigN, sigM]
    · refine ⟨5, 0, sig_reads (f := 12) (l := [⟨1, [114], 0, 0⟩, ⟨2, [], 0, 2⟩, ⟨1, [98], 0, 5⟩, ⟨5, [43], 0, 6⟩, ⟨6, [], 0, 7⟩]) (by decide) (by unfold toks; rfl) ⟨6, [], 0, 7⟩ ?_ rfl⟩
      simp [pRules, pChoice, pAlts, pParts, pPart, pOne, kindT, posT, sgnOf, preK, sufK, joinN, nameT, Nd.pos, sigN, sigM]
  · rcases (show b = 0 ∨ b = 1 ∨ b = 2 ∨ b = 3 by omega) with rfl | rfl | rfl | rfl
    · refine ⟨6, 5, sig_reads (f := 12) (l := [⟨1, [114], 0, 0⟩, ⟨2, [], 0, 2⟩, ⟨5, [38], 0, 5⟩, ⟨1, [98], 0, 6⟩, ⟨6, [], 0, 7⟩]) (by decide) (by unfold toks; rfl) ⟨6, [], 0, 7⟩ ?_ rfl⟩
      simp [pRules, pChoice, pAlts, pParts, pPart, pOne, kindT, posT, sgnOf, preK, sufK, joinN, nameT, sigN, sigM]
    · refine ⟨6, 5, sig_reads (f := 12) (l := [⟨1, [114], 0, 0⟩, ⟨2, [], 0, 2⟩, ⟨5, [38], 0, 5⟩, ⟨1, [98], 0, 6⟩, ⟨5, [63], 0, 7⟩, ⟨6, [], 0, 8⟩]) (by decide) (by unfold toks; rfl) ⟨6, [], 0, 8⟩ ?_ rfl⟩
      simp [pRules, pChoice, pAlts, pParts, pPart, pOne, kindT, posT, sgnOf, preK, sufK, joinN, nameT, Nd.pos, sigN, sigM]
    · refine ⟨6, 5, sig_reads (f := 12) (l := [⟨1, [114], 0, 0⟩, ⟨2, [], 0, 2⟩, ⟨5, [38], 0, 5⟩, ⟨1, [98], 0, 6⟩, ⟨5, [42], 0, 7⟩, ⟨6, [], 0, 8⟩]) (by decide) (by unfold toks; rfl) ⟨6, [], 0, 8⟩ ?_ rfl⟩
      simp [pRules, pChoice, pAlts, pParts, pPart, pOne, kindT, posT, sgnOf, preK, sufK, joinN, nameT, Nd.pos, sigN, sigM]
    · refine ⟨6, 5, sig_reads (f := 12) (l := [⟨1, [114], 0, 0⟩, ⟨2, [], 0, 2⟩, ⟨5, [38], 0, 5⟩, ⟨1, [98], 0, 6⟩, ⟨5, [43], 0, 7⟩, ⟨6, [], 0, 8⟩]) (by decide) (by unfold toks; rfl) ⟨6, [], 0, 8⟩ ?_ rfl⟩
      simp [pRules, pChoice, pAlts, pParts, pPart, pOne, kindT, posT, sgnOf, preK, sufK, joinN, nameT, Nd.pos, sigN, sigM]
  · rcases (show b = 0 ∨ b = 1 ∨ b = 2 ∨ b = 3 by omega) with rfl | rfl | rfl | rfl
    · refine ⟨6, 5, sig_reads (f := 12) (l := [⟨1, [114], 0, 0⟩, ⟨2, [], 0, 2⟩, ⟨5, [33], 0, 5⟩, ⟨1, [98], 0, 6⟩, ⟨6, [], 0, 7⟩]) (by decide) (by unfold toks; rfl) ⟨6, [], 0, 7⟩ ?_ rfl⟩
      simp [pRules, pChoice, pAlts, pParts, pPart, pOne, kindT, posT, sgnOf, preK, sufK, joinN, nameT, sigN, sigM]
    · refine ⟨6, 5, sig_reads (f := 12) (l := [⟨1, [114], 0, 0⟩, ⟨2, [], 0, 2⟩, ⟨5, [33], 0, 5⟩, ⟨1, [98], 0, 6⟩, ⟨5, [63], 0, 7⟩, ⟨6, [], 0, 8⟩]) (by decide) (by unfold toks; rfl) ⟨6, [], 0, 8⟩ ?_ rfl⟩
      simp [pRules, pChoice, pAlts, pParts, pPart, pOne, kindT, posT, sgnOf, preK, sufK, joinN, nameT, Nd.pos, sigN, sigM]
    · refine ⟨6, 5, sig_reads (f := 12) (l := [⟨1, [114], 0, 0⟩, ⟨2, [], 0, 2⟩, ⟨5, [33], 0, 5⟩, ⟨1, [98], 0, 6⟩, ⟨5, [42], 0, 7⟩, ⟨6, [], 0, 8⟩]) (by decide) (by unfold toks; rfl) ⟨6, [], 0, 8⟩ ?_ rfl⟩
      simp [pRules, pChoice, pAlts, pParts, pPart, pOne, kindT, posT, sgnOf, preK, sufK, joinN, nameT, Nd.pos, sigN, sigM]
    · refine ⟨6, 5, sig_reads (f := 12) (l := [⟨1, [114], 0, 0⟩, ⟨2, [], 0, 2⟩, ⟨5, [33], 0, 5⟩, ⟨1, [98], 0, 6⟩, ⟨5, [43], 0, 7⟩, ⟨6, [], 0, 8⟩]) (by decide) (by unfold toks; rfl) ⟨6, [], 0, 8⟩ ?_ rfl⟩
      simp [pRules, pChoice, pAlts, pParts, pPart, pOne, kindT, posT, sgnOf, preK, sufK, joinN, nameT, Nd.pos, sigN, sigM]
end Go.Proofs.YtcogimlekmnpjaaDoor
namespace Go.Proofs.YtcogimlekmnpjaaDoor
open Go.RowKit Go.Sort

theorem rep_kind {w : World} {P : Nat → Prop} {k a p p' : Nat} {t t' : List UInt8} {c c' : BitVec 256} {l : List Nd} {v : Value} (h : Rep w P (.mk k t c l p) (ndC a t' c' v p')) : a = k := by
  obtain ⟨k2, t2, x2, v2, l2, e1, e2, _⟩ := h.form
  injection e1 with e3
  simp only [ndC, List.cons.injEq, Value.int.injEq] at e2
  omega
/-- A grammar that is not empty, in memory. -/
theorem GRep.row {w : World} {P : Nat → Prop} {gs : List Ru} {v : Value} (h : GRep w P gs v) (h0 : gs ≠ []) : ∃ b cap cur cs, v = .slice (some ⟨b, 0, none⟩) gs.length cap ∧ P b ∧ w.heap[b]? = some (.cells cur 39 (0, 0)) ∧ gs.length ≤ cap ∧ gs.length ≤ maxLen ∧ cur.toList.take (gs.length * 10) = cs ∧ RuReps w P gs cs := by
  rcases h with ⟨rfl, _⟩ | ⟨b, cap, cur, cs, h1, h2, h3, h4, h5, h6, h7, h8⟩
  · exact absurd rfl h0
  · exact ⟨b, cap, cur, cs, h1, h2, h3, h4, h5, h7, h8⟩
set_option maxRecDepth 100000 in
set_option maxHeartbeats 3200000 in
theorem small4_any (w : World) (hg : Laid w) : Calls Tryd.prog 4 #[] w (Ans (.bool true) w) := by
  obtain ⟨c, hR⟩ := small4_reads
  have HR := Lib.hid (show Reads (bl ⟨#[97, 32, 60, 45, 32, 39, 120, 39, 32, 98, 42, 32, 98, 32, 60, 45, 32, 91, 48, 45, 57, 93]⟩) _ from hR)
  have HL := Lib.hid hg
  clear hg hR
  go_enter Tryd.func4, Tryd.ntmps4
  repeat (first | go_values | go_skip | go_guarded | go_step | go_upon)
  refine (syn_inr ⟨#[97, 32, 60, 45, 32, 39, 120, 39, 32, 98, 42, 32, 98, 32, 60, 45, 32, 91, 48, 45, 57, 93]⟩ _ HL.out (by decide) HR.out).mono ?_
  rintro e w1 ⟨⟨v, rfl, hG⟩, hb1⟩
  obtain ⟨b, cap, cur, cs, rfl, hP, hh, hcap, hmax, ht, hr⟩ := hG.row (by simp)
  obtain ⟨_, _, _, _, _, _, q0, a9, a0, a1, a2, a3, a4, a5, a6, a7, a8⟩ := rule_cells rfl hh ht hr (k := 0) rfl
  obtain ⟨_, _, _, _, _, _, q1, b9, b0, b1, b2, b3, b4, b5, b6, b7, b8⟩ := rule_cells rfl hh ht hr (k := 1) rfl
  obtain rfl := rep_kind q0
  clear q0 q1
  have HB := Lib.hid hb1
  have qb := (Array.getElem?_eq_some_iff.1 hh).1
  have c1 : w1.cell? ⟨b, 1, none⟩ = some (.int .i64 6) := a0
  have c10 : w1.cell? ⟨b, 10, none⟩ = some (.string ⟨#[98]⟩) := b9
  have c19 : w1.cell? ⟨b, 19, none⟩ = some (.int .i64 12) := b8
  clear a0 a9 a8 b9 b8
  clear hr hh ht hG hb1 a1 a2 a3 a4 a5 a6 a7 b0 b1 b2 b3 b4 b5 b6 b7
  dsimp only [List.length]
  repeat (first | go_values | go_skip | go_guarded | go_step | go_upon)
  go_ret
  exact ⟨rfl, HB.out.alloc HB.out.size _⟩
end Go.Proofs.YtcogimlekmnpjaaDoor
