/- printer's expr, by the kinds of nodes. | printer's expr writes the text of any tree that may be printed. | The walk of printer.node: whether a tree may be printed. | Two small facts for the walk of printer.node. -/
import Derived.Test.YtjlcoldnhbkcgaaGreatDoorG28
import Derived.Test.YtjlcoldnhbkcgaaGreatDoorG29
import Derived.Test.YtjlcoldnhbkcgaaGreatDoorG27
import Derived.Test.YtjlcoldnhbkcgaaGreatDoorG4
import Derived.Test.YtjlcoldnhbkcgaaGreatDoorG15
namespace Go.Proofs.YtjlcoldnhbkcgaaGreatDoor
open Go.RowKit Go.Sort

set_option maxRecDepth 100000 in
set_option maxHeartbeats 6400000 in
theorem expr_k9 {p : Int} {t : List UInt8} {c : BitVec 256} {a : Option Addr} {n cap : Nat} (b : Nat) (A : List UInt8) (w : World) (hp : Pg b b (Lib.byteCells A) w) (_ : A.length ≤ 99999999997000) {P : Nat → Prop} {l : List Tr} (_ : l.length = n) (IH : ∀ m ∈ l, ExprC m) (ho : ∀ m ∈ l, OkT m) (hl : RepL w P l (.slice a n cap)) (hP : ∀ x, P x → x < b) (hbk : A.length + 3000 * Tr.bulks l ≤ 99999999997000) :
    Calls Tryz.prog 69 #[.pointer (some ⟨b, 0, none⟩), .agg (trC 9 t c (.slice a n cap) p).toArray] w (PgP b A (rowTx [] 4 l ++ [42]) (3000 * Tr.bulks l + 1) w) := by
  have hlt := pg_lt hp
  have hm1 := cell_alloc_lt
  have HPg := Lib.hid hp
  have HWD := Lib.hid (fun (q : Bool) (hq : decide (8192 < A.length) = q) (w' : World) (h : Below w.heap.size w w') => wide_any b A q hq w' (pg_below hp h))
  have HI := Lib.hid IH
  have HO := Lib.hid ho
  have HL := Lib.hid hl
  have HP := Lib.hid hP
  have HBK := Lib.hid hbk
  clear IH ho hl hP hbk
  clear hp
  dsimp only [trC]
  by_cases hw : 8192 < A.length
  · have HQ := Lib.hid (HWD.out true (decide_eq_true hw))
    go_enter Tryz.func69, Tryz.ntmps69
    repeat (first | go_values | go_skip | go_guarded | go_step | go_upon)
    refine (HQ.out _ (by repeat (first | exact Below.refl _ _ | assumption | refine bal ?_ _ | refine bdr ?_ | refine bdrn ?_ _ | (refine bset ?_ (by first | exact Nat.le_refl _ | (simp; done) | (simp; omega) | omega) _) | refine bstep ?_ (by assumption)))).mono ?_
    rintro e w1 ⟨rfl, hb1⟩
    obtain ⟨hc1, hf1⟩ := bcell hb1
    have hz1 := hb1.size
    try simp at hz1
    dsimp only
    have hw1 : Below w.heap.size w w1 := (by repeat (first | exact Below.refl _ _ | assumption | refine bal ?_ _ | refine bdr ?_ | refine bdrn ?_ _ | (refine bset ?_ (by first | exact Nat.le_refl _ | (simp; done) | (simp; omega) | omega) _) | refine bstep ?_ (by assumption)))
    repeat (first | go_values | go_skip | go_guarded | go_step | go_upon)
    first | go_end0 | go_ret | (refine bodyPost_ret (v := .tuple #[]) (by rfl) rfl ?_)
    exact ⟨rfl, A, Wr.wide hw, by omega, pg_below HPg.out hw1, hw1.mono (Nat.le_of_lt hlt), oth_below b hw1⟩
  · have HQ := Lib.hid (HWD.out false (decide_eq_false hw))
    clear hw
    go_enter Tryz.func69, Tryz.ntmps69
    repeat (first | go_values | go_skip | go_guarded | go_step | go_upon)
    refine (HQ.out _ (by repeat (first | exact Below.refl _ _ | assumption | refine bal ?_ _ | refine bdr ?_ | refine bdrn ?_ _ | (refine bset ?_ (by first | exact Nat.le_refl _ | (simp; done) | (simp; omega) | omega) _) | refine bstep ?_ (by assumption)))).mono ?_
    rintro e w1 ⟨rfl, hb1⟩
    obtain ⟨hc1, hf1⟩ := bcell hb1
    have hz1 := hb1.size
    try simp at hz1
    dsimp only
    have hw1 : Below w.heap.size w w1 := (by repeat (first | exact Below.refl _ _ | assumption | refine bal ?_ _ | refine bdr ?_ | refine bdrn ?_ _ | (refine bset ?_ (by first | exact Nat.le_refl _ | (simp; done) | (simp; omega) | omega) _) | refine bstep ?_ (by assumption)))
    have hwb : Below b w w1 := hw1.mono (Nat.le_of_lt hlt)
    have hP1 := pg_below HPg.out hw1
    have ho1 := oth_below b hw1
    have hbp := (hb1.block w.heap.size (by simp; omega)).trans ((RowKit.Below.heap_alloc _ _ _ (by simp)).trans (heap_alloc_new w _))
    have hbn := (hb1.block (w.heap.size + 1) (by simp)).trans (allocs_new w _ _)
    have cP := (cells_at hbp).1 0
    have cN := (cells_at hbn).1
    simp only [List.getElem?_toArray, List.getElem?_cons_zero] at cP
    have qb1 := pg_lt hP1
    have hwbd : Below b w w1.drew := hwb.trans ((drew_below w1).mono (Nat.le_of_lt qb1))
    have hod : Oth b w w1.drew := ho1.trans (oth_below b (drew_below w1))
    have qP : w.heap.size < w1.heap.size := (Array.getElem?_eq_some_iff.1 hbp).1
    have qN : w.heap.size + 1 < w1.heap.size := (Array.getElem?_eq_some_iff.1 hbn).1
    have HBP := Lib.hid hbp
    have HBN := Lib.hid hbn
    clear hbp hbn HQ HWD
    repeat (first | go_values | go_skip | go_guarded | go_step | go_upon)
    refine (prow_any HI.out HO.out [] (by decide) 4 b _ _ A w1 P HBN.out HBP.out (by omega) (by omega) (HL.out.mono (fun y hy => hwb.block y (HP.out y hy)) (fun _ h => h)) HP.out hP1 (by have := HBK.out; omega)).mono ?_
    rintro e w2 ⟨rfl, A', h1, h2, h3, h4, h5⟩
    have hbp2 := oth_cell h5 HBP.out (by omega) (by decide)
    have hbn2 := oth_cell h5 HBN.out (by omega) (by decide)
    have cP2 := (cells_at hbp2).1 0
    have cN2 := (cells_at hbn2).1
    simp only [List.getElem?_toArray, List.getElem?_cons_zero] at cP2
    have hA' : A'.length ≤ 99999999997000 := by have := HBK.out; omega
    have qb2 := pg_lt h3
    clear cP cN
    dsimp only
    repeat (first | go_values | go_skip | go_guarded | go_step | go_upon)
    go_region_with (go_at_call 70; refine (pg_wb b A' 42 42 _ rfl (pg_below h3 (drew_below w2)) (by omega)).mono ?_; rintro e w3 ⟨rfl, hB3, hb3, ho3⟩; try dsimp only)
    all_goals (first | go_end0 | go_ret | (refine bodyPost_ret (v := .tuple #[]) (by rfl) rfl ?_))
    all_goals (exact ⟨rfl, A' ++ [42], h1.trans (Wr.put A' _), by rw [List.length_append, List.length_singleton]; omega, hB3, hwb.trans (h4.trans (((drew_below w2).mono (Nat.le_of_lt qb2)).trans hb3)), ho1.trans (h5.trans ((oth_below b (drew_below w2)).trans ho3))⟩)
set_option maxRecDepth 100000 in
set_option maxHeartbeats 6400000 in
theorem expr_k10 {p : Int} {t : List UInt8} {c : BitVec 256} {a : Option Addr} {n cap : Nat} (b : Nat) (A : List UInt8) (w : World) (hp : Pg b b (Lib.byteCells A) w) (_ : A.length ≤ 99999999997000) {P : Nat → Prop} {l : List Tr} (_ : l.length = n) (IH : ∀ m ∈ l, ExprC m) (ho : ∀ m ∈ l, OkT m) (hl : RepL w P l (.slice a n cap)) (hP : ∀ x, P x → x < b) (hbk : A.length + 3000 * Tr.bulks l ≤ 99999999997000) :
    Calls Tryz.prog 69 #[.pointer (some ⟨b, 0, none⟩), .agg (trC 10 t c (.slice a n cap) p).toArray] w (PgP b A (rowTx [] 4 l ++ [43]) (3000 * Tr.bulks l + 1) w) := by
  have hlt := pg_lt hp
  have hm1 := cell_alloc_lt
  have HPg := Lib.hid hp
  have HWD := Lib.hid (fun (q : Bool) (hq : decide (8192 < A.length) = q) (w' : World) (h : Below w.heap.size w w') => wide_any b A q hq w' (pg_below hp h))
  have HI := Lib.hid IH
  have HO := Lib.hid ho
  have HL := Lib.hid hl
  have HP := Lib.hid hP
  have HBK := Lib.hid hbk
  clear IH ho hl hP hbk
  clear hp
  dsimp only [trC]
  by_cases hw : 8192 < A.length
  · have HQ := Lib.hid (HWD.out true (decide_eq_true hw))
    go_enter Tryz.func69, Tryz.ntmps69
    repeat (first | go_values | go_skip | go_guarded | go_step | go_upon)
    refine (HQ.out _ (by repeat (first | exact Below.refl _ _ | assumption | refine bal ?_ _ | refine bdr ?_ | refine bdrn ?_ _ | (refine bset ?_ (by first | exact Nat.le_refl _ | (simp; done) | (simp; omega) | omega) _) | refine bstep ?_ (by assumption)))).mono ?_
    rintro e w1 ⟨rfl, hb1⟩
    obtain ⟨hc1, hf1⟩ := bcell hb1
    have hz1 := hb1.size
    try simp at hz1
    dsimp only
    have hw1 : Below w.heap.size w w1 := (by repeat (first | exact Below.refl _ _ | assumption | refine bal ?_ _ | refine bdr ?_ | refine bdrn ?_ _ | (refine bset ?_ (by first | exact Nat.le_refl _ | (simp; done) | (simp; omega) | omega) _) | refine bstep ?_ (by assumption)))
    repeat (first | go_values | go_skip | go_guarded | go_step | go_upon)
    first | go_end0 | go_ret | (refine bodyPost_ret (v := .tuple #[]) (by rfl) rfl ?_)
    exact ⟨rfl, A, Wr.wide hw, by omega, pg_below HPg.out hw1, hw1.mono (Nat.le_of_lt hlt), oth_below b hw1⟩
  · have HQ := Lib.hid (HWD.out false (decide_eq_false hw))
    clear hw
    go_enter Tryz.func69, Tryz.ntmps69
    repeat (first | go_values | go_skip | go_guarded | go_step | go_upon)
    refine (HQ.out _ (by repeat (first | exact Below.refl _ _ | assumption | refine bal ?_ _ | refine bdr ?_ | refine bdrn ?_ _ | (refine bset ?_ (by first | exact Nat.le_refl _ | (simp; done) | (simp; omega) | omega) _) | refine bstep ?_ (by assumption)))).mono ?_
    rintro e w1 ⟨rfl, hb1⟩
    obtain ⟨hc1, hf1⟩ := bcell hb1
    have hz1 := hb1.size
    try simp at hz1
    dsimp only
    have hw1 : Below w.heap.size w w1 := (by repeat (first | exact Below.refl _ _ | assumption | refine bal ?_ _ | refine bdr ?_ | refine bdrn ?_ _ | (refine bset ?_ (by first | exact Nat.le_refl _ | (simp; done) | (simp; omega) | omega) _) | refine bstep ?_ (by assumption)))
    have hwb : Below b w w1 := hw1.mono (Nat.le_of_lt hlt)
    have hP1 := pg_below HPg.out hw1
    have ho1 := oth_below b hw1
    have hbp := (hb1.block w.heap.size (by simp; omega)).trans ((RowKit.Below.heap_alloc _ _ _ (by simp)).trans (heap_alloc_new w _))
    have hbn := (hb1.block (w.heap.size + 1) (by simp)).trans (allocs_new w _ _)
    have cP := (cells_at hbp).1 0
    have cN := (cells_at hbn).1
    simp only [List.getElem?_toArray, List.getElem?_cons_zero] at cP
    have qb1 := pg_lt hP1
    have hwbd : Below b w w1.drew := hwb.trans ((drew_below w1).mono (Nat.le_of_lt qb1))
    have hod : Oth b w w1.drew := ho1.trans (oth_below b (drew_below w1))
    have qP : w.heap.size < w1.heap.size := (Array.getElem?_eq_some_iff.1 hbp).1
    have qN : w.heap.size + 1 < w1.heap.size := (Array.getElem?_eq_some_iff.1 hbn).1
    have HBP := Lib.hid hbp
    have HBN := Lib.hid hbn
    clear hbp hbn HQ HWD
    repeat (first | go_values | go_skip | go_guarded | go_step | go_upon)
    refine (prow_any HI.out HO.out [] (by decide) 4 b _ _ A w1 P HBN.out HBP.out (by omega) (by omega) (HL.out.mono (fun y hy => hwb.block y (HP.out y hy)) (fun _ h => h)) HP.out hP1 (by have := HBK.out; omega)).mono ?_
    rintro e w2 ⟨rfl, A', h1, h2, h3, h4, h5⟩
    have hbp2 := oth_cell h5 HBP.out (by omega) (by decide)
    have hbn2 := oth_cell h5 HBN.out (by omega) (by decide)
    have cP2 := (cells_at hbp2).1 0
    have cN2 := (cells_at hbn2).1
    simp only [List.getElem?_toArray, List.getElem?_cons_zero] at cP2
    have hA' : A'.length ≤ 99999999997000 := by have := HBK.out; omega
    have qb2 := pg_lt h3
    clear cP cN
    dsimp only
    repeat (first | go_values | go_skip | go_guarded | go_step | go_upon)
    go_region_with (go_at_call 70; refine (pg_wb b A' 43 43 _ rfl (pg_below h3 (drew_below w2)) (by omega)).mono ?_; rintro e w3 ⟨rfl, hB3, hb3, ho3⟩; try dsimp only)
    all_goals (first | go_end0 | go_ret | (refine bodyPost_ret (v := .tuple #[]) (by rfl) rfl ?_))
    all_goals (exact ⟨rfl, A' ++ [43], h1.trans (Wr.put A' _), by rw [List.length_append, List.length_singleton]; omega, hB3, hwb.trans (h4.trans (((drew_below w2).mono (Nat.le_of_lt qb2)).trans hb3)), ho1.trans (h5.trans ((oth_below b (drew_below w2)).trans ho3))⟩)
end Go.Proofs.YtjlcoldnhbkcgaaGreatDoor
namespace Go.Proofs.YtjlcoldnhbkcgaaGreatDoor
open Go.RowKit Go.Sort

theorem PgP.le {b m m' : Nat} {A t : List UInt8} {w : World} {e : Ending} {w' : World} (h : PgP b A t m w e w') (hm : m ≤ m') : PgP b A t m' w e w' := by
  obtain ⟨h1, A', h2, h3, h4⟩ := h
  exact ⟨h1, A', h2, by omega, h4⟩
theorem txs_rowT (sep : List Pc) (r : Nat) (l : List Tr) : txs (pcR sep r true l) = rowTx (txs sep) r l := by
  cases l with
  | nil => rw [pcR_nil]; rfl
  | cons n l => rw [txs_first]; rfl
theorem name_len {t : List UInt8} (h : isName t = true) : t.length ≤ 32 := (isName_spec h).2.1
theorem expr_any {n : Tr} (h : OkT n) : ExprC n := by
  induction h with
  | empty =>
    intro b A w P c hr hP hp hb _
    cases hr with
    | mk hl =>
      obtain ⟨a, cap, rfl, _⟩ := hl.slice
      rw [Tr.bulk] at hb ⊢
      exact (expr_k1 b A w hp (by simp only [Tr.bulks, List.length_nil] at hb; omega)).mono fun e w' h => h.le (by simp only [Tr.bulks, List.length_nil]; omega)
  | @lit t p ht =>
    intro b A w P c hr hP hp hb _
    cases hr with
    | mk hl =>
      obtain ⟨a, cap, rfl, _⟩ := hl.slice
      rw [Tr.bulk] at hb ⊢
      rw [show txT (.mk 2 t 0 [] p) = quoted t from by rw [txT, pcT]; simp [txs, Pc.tx]]
      exact (expr_k2 b A w hp (by simp only [Tr.bulks] at hb; omega) ht).mono fun e w' h => h.le (by simp only [Tr.bulks]; omega)
  | @set x p =>
    intro b A w P c hr hP hp hb _
    cases hr with
    | mk hl =>
      obtain ⟨a, cap, rfl, _⟩ := hl.slice
      rw [Tr.bulk] at hb ⊢
      rw [show txT (.mk 3 [] x [] p) = txt x from by rw [txT, pcT]; simp [txs, Pc.tx]]
      exact (expr_k3 b A w hp (by simp only [Tr.bulks, List.length_nil] at hb; omega)).mono fun e w' h => h.le (by simp only [Tr.bulks, List.length_nil]; omega)
  | any =>
    intro b A w P c hr hP hp hb _
    cases hr with
    | mk hl =>
      obtain ⟨a, cap, rfl, _⟩ := hl.slice
      rw [Tr.bulk] at hb ⊢
      exact (expr_k4 b A w hp (by simp only [Tr.bulks, List.length_nil] at hb; omega)).mono fun e w' h => h.le (by simp only [Tr.bulks, List.length_nil]; omega)
  | @ref t p ht =>
    intro b A w P c hr hP hp hb _
    cases hr with
    | mk hl =>
      obtain ⟨a, cap, rfl, _⟩ := hl.slice
      rw [Tr.bulk] at hb ⊢
      rw [show txT (.mk 5 t 0 [] p) = t from by rw [txT, pcT]; simp [txs, Pc.tx]]
      exact (expr_k5 b A w hp (by simp only [Tr.bulks] at hb; omega) (name_len ht)).mono fun e w' h => h.le (by simp only [Tr.bulks]; omega)
  | @seq l p hl1 ho ih =>
    intro b A w P c hr hP hp hb _
    cases hr with
    | mk hl =>
      obtain ⟨a, cap, rfl, _⟩ := hl.slice
      rw [Tr.bulk] at hb ⊢
      rw [show txT (.mk 6 [] 0 l p) = rowTx [32] 2 l from by rw [txT]; exact txs_rowT [.sp] 2 l]
      exact (expr_k6 b A w hp (by omega) rfl ih ho hl hP (by omega)).mono fun e w' h => h.le (by omega)
  | @alt l p hl1 ho ih =>
    intro b A w P c hr hP hp hb _
    cases hr with
    | mk hl =>
      obtain ⟨a, cap, rfl, _⟩ := hl.slice
      rw [Tr.bulk] at hb ⊢
      rw [show txT (.mk 7 [] 0 l p) = rowTx [32, 47, 32] 1 l from by rw [txT]; exact txs_rowT [.sp, .sg 47, .sp] 1 l]
      exact (expr_k7 b A w hp (by omega) rfl ih ho hl hP (by omega)).mono fun e w' h => h.le (by omega)
  | @post k p x hk ho ih =>
    intro b A w P c hr hP hp hb _
    have ih1 : ∀ m ∈ [x], ExprC m := fun m hm => by obtain rfl := List.mem_singleton.1 hm; exact ih
    have ho1 : ∀ m ∈ [x], OkT m := fun m hm => by obtain rfl := List.mem_singleton.1 hm; exact ho
    cases hr with
    | mk hl =>
      obtain ⟨a, cap, rfl, _⟩ := hl.slice
      rw [Tr.bulk] at hb ⊢
      have e : txT (.mk k [] 0 [x] p) = rowTx [] 4 [x] ++ [postB k] := by
        rw [txT, show pcT (.mk k [] 0 [x] p) = pcR [] 4 true [x] ++ [.sg (postB k)] by rcases hk with rfl | rfl | rfl <;> (rw [pcT]; rfl), txs_app, txs_rowT]
        rfl
      rw [e]
      rcases hk with rfl | rfl | rfl
      · exact (expr_k8 b A w hp (by omega) rfl ih1 ho1 hl hP (by omega)).mono fun e w' h => h.le (by omega)
      · exact (expr_k9 b A w hp (by omega) rfl ih1 ho1 hl hP (by omega)).mono fun e w' h => h.le (by omega)
      · exact (expr_k10 b A w hp (by omega) rfl ih1 ho1 hl hP (by omega)).mono fun e w' h => h.le (by omega)
  | @pre k p x hk ho ih =>
    intro b A w P c hr hP hp hb _
    have ih1 : ∀ m ∈ [x], ExprC m := fun m hm => by obtain rfl := List.mem_singleton.1 hm; exact ih
    have ho1 : ∀ m ∈ [x], OkT m := fun m hm => by obtain rfl := List.mem_singleton.1 hm; exact ho
    cases hr with
    | mk hl =>
      obtain ⟨a, cap, rfl, _⟩ := hl.slice
      rw [Tr.bulk] at hb ⊢
      have e : txT (.mk k [] 0 [x] p) = [preB k] ++ rowTx [] 3 [x] := by
        rw [txT, show pcT (.mk k [] 0 [x] p) = .sg (preB k) :: pcR [] 3 true [x] by rcases hk with rfl | rfl <;> (rw [pcT]; rfl)]
        show (preB k) :: txs (pcR [] 3 true [x]) = _
        rw [txs_rowT]
        rfl
      rw [e]
      rcases hk with rfl | rfl
      · exact (expr_k11 b A w hp (by omega) rfl ih1 ho1 hl hP (by omega)).mono fun e w' h => h.le (by omega)
      · exact (expr_k12 b A w hp (by omega) rfl ih1 ho1 hl hP (by omega)).mono fun e w' h => h.le (by omega)
end Go.Proofs.YtjlcoldnhbkcgaaGreatDoor
namespace Go.Proofs.YtjlcoldnhbkcgaaGreatDoor
open Go.RowKit Go.Sort

theorem cl_zero (c : BitVec 256) : (wd c 0 == 0 && (wd c 1 == 0 && (wd c 2 == 0 && wd c 3 == 0))) = (c == 0) := by
  have h := eq_wd c 0
  rw [wd_zero', wd_zero', wd_zero', wd_zero'] at h
  exact h
/-- The first of some trees that may not be printed; -1: none. -/
def badI : Nat → List Tr → Int
  | _, [] => -1
  | i, n :: l => if okT n = true then badI (i + 1) l else (i : Int)
theorem badI_sign : ∀ (l : List Tr) (i : Nat), decide (0 ≤ badI i l) = !okL l := by
  intro l
  induction l with
  | nil => intro i; rfl
  | cons n l ih =>
    intro i
    rw [badI, okL]
    split
    · next h => rw [ih, h]; rfl
    · next h =>
      have : okT n = false := by simpa using h
      rw [this]
      simp
/-- The contract of node at a tree. -/
def NodeC (n : Tr) : Prop := ∀ (w : World) (P : Nat → Prop) (c : List Value), RepA w P n c → (∀ b, P b → b < w.heap.size) → n.bulk ≤ 1000000000 → Calls Tryz.prog 88 #[.agg c.toArray] w (Ans (.bool (okT n)) w)
theorem node1_any {n : Tr} (h : NodeC n) (q : Bool) (hq : okT n = !q) (w : World) (P : Nat → Prop) (c : List Value) (hr : RepA w P n c) (hP : ∀ b, P b → b < w.heap.size) (hb : n.bulk ≤ 1000000000) : Calls Tryz.prog 119 #[.agg c.toArray] w (Ans (.bool q) w) := by
  obtain ⟨k, t, x, v, l, p, rfl, rfl, hl⟩ := hr.form
  have HC := Lib.hid (h (w.alloc (.cells (trC k t x v p).toArray 40)) P _ (hr.mono (fun b hb => RowKit.Below.heap_alloc _ _ _ (hP b hb)) (fun _ h => h)) (fun b hb => by have := hP b hb; simp; omega) hb)
  have hm1 := cell_alloc_lt
  obtain ⟨sa, cap, rfl, _⟩ := hl.slice
  rw [hq] at HC
  clear h hr hP hb hl hq
  dsimp only [trC] at HC ⊢
  cases q with
  | true =>
    go_enter Tryz.func119, Tryz.ntmps119
    repeat (first | go_values | go_skip | go_guarded | go_step | go_upon)
    refine (HC.out).mono ?_
    rintro e w1 ⟨rfl, hb1⟩
    obtain ⟨hc1, hf1⟩ := bcell hb1
    have hz1 := hb1.size
    try simp at hz1
    dsimp only
    repeat (first | go_values | go_skip | go_guarded | go_step | go_upon)
    go_ret
    exact ⟨rfl, (by repeat (first | exact Below.refl _ _ | assumption | refine bal ?_ _ | refine bdr ?_ | refine bdrn ?_ _ | (refine bset ?_ (by first | exact Nat.le_refl _ | (simp; done) | (simp; omega) | omega) _) | refine bstep ?_ (by assumption)))⟩
  | false =>
    go_enter Tryz.func119, Tryz.ntmps119
    repeat (first | go_values | go_skip | go_guarded | go_step | go_upon)
    refine (HC.out).mono ?_
    rintro e w1 ⟨rfl, hb1⟩
    obtain ⟨hc1, hf1⟩ := bcell hb1
    have hz1 := hb1.size
    try simp at hz1
    dsimp only
    repeat (first | go_values | go_skip | go_guarded | go_step | go_upon)
    go_ret
    exact ⟨rfl, (by repeat (first | exact Below.refl _ _ | assumption | refine bal ?_ _ | refine bdr ?_ | refine bdrn ?_ _ | (refine bset ?_ (by first | exact Nat.le_refl _ | (simp; done) | (simp; omega) | omega) _) | refine bstep ?_ (by assumption)))⟩
theorem bulk_mem {l : List Tr} {n : Tr} (h : n ∈ l) : n.bulk ≤ Tr.bulks l := by
  induction l with
  | nil => cases h
  | cons m l ih =>
    rw [Tr.bulks]
    rcases List.mem_cons.1 h with rfl | h
    · omega
    · have := ih h; omega
set_option maxRecDepth 100000 in
set_option maxHeartbeats 3200000 in
theorem index_node {l : List Tr} {v : Value} {P : Nat → Prop} (w : World) (hl : RepL w P l v) (hP : ∀ b, P b → b < w.heap.size) (hb : Tr.bulks l ≤ 1000000000) (IH : ∀ m ∈ l, NodeC m) : Calls Tryz.prog 136 #[v, .func (.func 119) #[] #[]] w (Ans (.int .i64 (badI 0 l)) w) := by
  obtain ⟨n, hn⟩ : ∃ n, n = l.length := ⟨_, rfl⟩
  obtain ⟨a, cap, rfl, hcap, hmax⟩ := hl.slice
  have HL := Lib.hid hl
  have HP := Lib.hid hP
  have HI := Lib.hid IH
  have HB := Lib.hid hb
  have hm1 := cell_alloc_lt
  rw [← hn] at hcap hmax ⊢
  have HN := Lib.hid hn
  unfold maxLen at hmax
  clear hl hP IH hb hn
  go_enter Tryz.func136, Tryz.ntmps136
  repeat (first | go_values | go_skip | go_guarded | go_step | go_upon)
  go_loopw [8] (fun tt wr => ∃ j : Nat, tt = .int .i64 (j : Int) ∧ j ≤ n ∧ Hid (badI 0 l = badI j (l.drop j)) ∧ Below w.heap.size w wr) (fun tt _ => n - (intOf tt).toNat)
  case atStart => exact ⟨0, rfl, Nat.zero_le _, Lib.hid rfl, Below.refl _ _⟩
  case round =>
    obtain ⟨j, rfl, hj, hbad, hbr⟩ := hrel
    by_cases hlt : j < n
    · have hlt2 : j < l.length := by rw [← HN.out]; exact hlt
      obtain ⟨y, hy⟩ : ∃ y, l[j]? = some y := ⟨l[j], List.getElem?_eq_getElem hlt2⟩
      have hmem := List.mem_of_getElem? hy
      have hdrop : l.drop j = y :: l.drop (j + 1) := by
        rw [List.drop_eq_getElem_cons hlt2]
        congr 1
        exact (List.getElem?_eq_some_iff.1 hy).2
      have hbd := bulk_mem hmem
      have h1 := hbad.out
      rw [hdrop, badI] at h1
      rcases HL.out.parts with ⟨e, _⟩ | ⟨e, _⟩ | ⟨g, o, cap', e, hg, _, _, _, hr⟩
      · rw [e] at hlt2; simp at hlt2
      · rw [e] at hlt2; simp at hlt2
      · obtain rfl : a = some ⟨g, o, none⟩ := by injection e
        have HW := Lib.hid hbr
        obtain ⟨k1, t1, x1, sa, sn, sc, p1, l1, _, q0, _, a0, a1, a2, a3, a4, a5, a6, a7⟩ := (hr.mono (w' := wr) (P' := P) (fun b hb => HW.out.block b (HP.out b hb)) (fun _ h => h) hg).get hy
        have HC := Lib.hid (fun q hq => node1_any (HI.out y hmem) q hq wr P _ q0 (fun b hb => Nat.lt_of_lt_of_le (HP.out b hb) hbr.size) (by have := HB.out; omega))
        have d1 : decide ((j : Int) < n) = true := by simpa using hlt
        have k5 : IntKind.i64.wrap ((j : Int) + 1) = (j : Int) + 1 := by rw [IntKind.wrap_i64]; omega
        obtain ⟨r, hr2⟩ : ∃ r, okT y = r := ⟨_, rfl⟩
        rw [hr2] at h1
        have HR := Lib.hid hr2
        have H1 := Lib.hid h1
        clear h1 hdrop hy hmem q0 hr e hbad hr2
        dsimp only [trC] at HC
        cases r with
        | true =>
          have H2 := Lib.hid (show badI 0 l = badI (j + 1) (l.drop (j + 1)) from H1.out)
          clear H1
          repeat (first | go_values | go_skip | go_guarded | go_step | go_upon)
          refine (HC.out false HR.out).mono ?_
          rintro e w1 ⟨rfl, hb1⟩
          dsimp only
          repeat (first | go_values | go_skip | go_guarded | go_step | go_upon)
          exact ⟨⟨j + 1, by go_num, by omega, H2, hbr.trans (hb1.mono hbr.size)⟩, by simp [intOf]; omega⟩
        | false =>
          have H2 := Lib.hid (show badI 0 l = (j : Int) from H1.out)
          clear H1
          repeat (first | go_values | go_skip | go_guarded | go_step | go_upon)
          refine (HC.out true HR.out).mono ?_
          rintro e w1 ⟨rfl, hb1⟩
          dsimp only
          repeat (first | go_values | go_skip | go_guarded | go_step | go_upon)
          go_ret
          exact ⟨by rw [H2.out]; rfl, hbr.trans (hb1.mono hbr.size)⟩
    · have d1 : decide (j < n) = false := by simpa using hlt
      have hjn : j = l.length := by rw [← HN.out]; omega
      have H2 := Lib.hid (show badI 0 l = -1 by rw [hbad.out, hjn, List.drop_length]; rfl)
      clear hlt hjn hbad
      repeat (first | go_values | go_skip | go_guarded | go_step | go_upon)
      go_ret
      exact ⟨by rw [H2.out]; rfl, hbr⟩
theorem contains_node {l : List Tr} {v : Value} {P : Nat → Prop} (w : World) (hl : RepL w P l v) (hP : ∀ b, P b → b < w.heap.size) (hb : Tr.bulks l ≤ 1000000000) (IH : ∀ m ∈ l, NodeC m) : Calls Tryz.prog 118 #[v, .func (.func 119) #[] #[]] w (Ans (.bool (!okL l)) w) := by
  have HC := Lib.hid (fun (w' : World) (h : Below w.heap.size w w') => index_node w' (hl.mono (fun b hb => h.block b (hP b hb)) (fun _ h => h)) (fun b hb => Nat.lt_of_lt_of_le (hP b hb) h.size) hb IH)
  have hs := badI_sign l 0
  obtain ⟨i, hi⟩ : ∃ i, badI 0 l = i := ⟨_, rfl⟩
  rw [hi] at HC hs
  rw [← hs]
  obtain ⟨a, cap, rfl, hcap, hmax⟩ := hl.slice
  generalize l.length = n at *
  clear hl hP hb IH hi hs
  go_enter Tryz.func118, Tryz.ntmps118
  repeat (first | go_values | go_skip | go_guarded | go_step | go_upon)
  refine (HC.out _ (by repeat (first | exact Below.refl _ _ | assumption | refine bal ?_ _ | refine bdr ?_ | refine bdrn ?_ _ | (refine bset ?_ (by first | exact Nat.le_refl _ | (simp; done) | (simp; omega) | omega) _) | refine bstep ?_ (by assumption)))).mono ?_
  rintro e w1 ⟨rfl, hb1⟩
  obtain ⟨hc1, hf1⟩ := bcell hb1
  have hz1 := hb1.size
  try simp at hz1
  dsimp only
  repeat (first | go_values | go_skip | go_guarded | go_step | go_upon)
  go_ret
  exact ⟨rfl, (by repeat (first | exact Below.refl _ _ | assumption | refine bal ?_ _ | refine bdr ?_ | refine bdrn ?_ _ | (refine bset ?_ (by first | exact Nat.le_refl _ | (simp; done) | (simp; omega) | omega) _) | refine bstep ?_ (by assumption)))⟩
end Go.Proofs.YtjlcoldnhbkcgaaGreatDoor
namespace Go.Proofs.YtjlcoldnhbkcgaaGreatDoor
open Go.RowKit Go.Sort

theorem str_empty (t : List UInt8) : (mkS t).toList.isEmpty = t.isEmpty := by
  rw [Go.ByteArray.toList_eq]
  simp [mkS]
theorem mkS_bl (t : List UInt8) : bl (mkS t) = t := by simp [bl, mkS]
end Go.Proofs.YtjlcoldnhbkcgaaGreatDoor
