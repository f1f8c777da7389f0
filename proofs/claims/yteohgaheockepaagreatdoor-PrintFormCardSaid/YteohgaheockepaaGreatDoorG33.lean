/- printer's expr, by the kinds of nodes. | printer's expr, by the kinds of nodes. | printer's expr, by the kinds of nodes. | printer's expr, by the kinds of nodes. -/
import Derived.Test.YteohgaheockepaaGreatDoorG32
import Derived.Test.YteohgaheockepaaGreatDoorG30
namespace Go.Proofs.YteohgaheockepaaGreatDoor
open Go.RowKit Go.Sort

theorem mkS_bl' (t : List UInt8) : bl (mkS t) = t := by simp [bl, mkS]
theorem quoted_le (p : List UInt8) : (quoted p).length ≤ 4 * p.length + 2 := by
  have := quoTo_len p p.length
  rw [quoted, List.length_append, List.length_singleton]
  omega
theorem txt_le (c : BitVec 256) : (txt c).length ≤ 2400 := by
  have h := txK_len (runs c) (runs c).length
  have h2 : (runs c).length ≤ 257 := runs_len c 257 _
  rw [txt, List.length_append, List.length_singleton]
  omega
set_option maxRecDepth 100000 in
set_option maxHeartbeats 6400000 in
theorem expr_k1 {p : Int} {t : List UInt8} {c : BitVec 256} {a : Option Addr} {n cap : Nat} (b : Nat) (A : List UInt8) (w : World) (hp : Pg b b (Lib.byteCells A) w) (hA : A.length ≤ 99999999997000) :
    Calls Tryz.prog 25 #[.pointer (some ⟨b, 0, none⟩), .agg (trC 1 t c (.slice a n cap) p).toArray] w (PgP b A [40, 41] 2 w) := by
  have hlt := pg_lt hp
  have hm1 := cell_alloc_lt
  have HPg := Lib.hid hp
  have HWD := Lib.hid (fun (q : Bool) (hq : decide (8192 < A.length) = q) (w' : World) (h : Below w.heap.size w w') => wide_any b A q hq w' (pg_below hp h))
  clear hp
  dsimp only [trC]
  by_cases hw : 8192 < A.length
  · have HQ := Lib.hid (HWD.out true (decide_eq_true hw))
    go_enter Tryz.func25, Tryz.ntmps25
    repeat (first | go_values | go_skip | go_guarded | go_step | go_upon)
    refine (HQ.out _ (by repeat (first | exact Below.refl _ _ | assumption | refine bal ?_ _ | refine bdr ?_ | refine bdrn ?_ _ | (refine bset ?_ (by first | exact Nat.le_refl _ | (simp; done) | (simp; omega) | omega) _) | refine bstep ?_ (by assumption)))).mono ?_
    rintro e w1 ⟨rfl, hb1⟩
    obtain ⟨hc1, hf1⟩ := bcell hb1
    have hz1 := hb1.size
    try simp at hz1
    dsimp only
    have hw1 : Below w.heap.size w w1 := (by repeat (first | exact Below.refl _ _ | assumption | refine bal ?_ _ | refine bdr ?_ | refine bdrn ?_ _ | (refine bset ?_ (by first | exact Nat.le_refl _ | (simp; done) | (simp; omega) | omega) _) | refine bstep ?_ (by assumption)))
    repeat (first | go_values | go_skip | go_guarded | go_step | go_upon)
    first | go_end0 | go_ret | (refine bodyPost_ret (v := .tuple #[]) (by rfl) rfl ?_)
    exact ⟨rfl, A, Wr.wide hw, by omega, pg_below HPg.out hw1, hw1.mono (Nat.le_of_lt hlt), oth_below b hw1⟩
  · have HQ := Lib.hid (HWD.out false (decide_eq_false hw))
    clear hw
    go_enter Tryz.func25, Tryz.ntmps25
    repeat (first | go_values | go_skip | go_guarded | go_step | go_upon)
    refine (HQ.out _ (by repeat (first | exact Below.refl _ _ | assumption | refine bal ?_ _ | refine bdr ?_ | refine bdrn ?_ _ | (refine bset ?_ (by first | exact Nat.le_refl _ | (simp; done) | (simp; omega) | omega) _) | refine bstep ?_ (by assumption)))).mono ?_
    rintro e w1 ⟨rfl, hb1⟩
    obtain ⟨hc1, hf1⟩ := bcell hb1
    have hz1 := hb1.size
    try simp at hz1
    dsimp only
    have hw1 : Below w.heap.size w w1 := (by repeat (first | exact Below.refl _ _ | assumption | refine bal ?_ _ | refine bdr ?_ | refine bdrn ?_ _ | (refine bset ?_ (by first | exact Nat.le_refl _ | (simp; done) | (simp; omega) | omega) _) | refine bstep ?_ (by assumption)))
    have hwb : Below b w w1 := hw1.mono (Nat.le_of_lt hlt)
    have hP1 := pg_below HPg.out hw1
    have ho1 := oth_below b hw1
    have hbp := (hb1.block w.heap.size (by simp; omega)).trans ((RowKit.Below.heap_alloc _ _ _ (by simp)).trans (heap_alloc_new w _))
    have hbn := (hb1.block (w.heap.size + 1) (by simp)).trans (allocs_new w _ _)
    have cP := (cells_at hbp).1 0
    have cN := (cells_at hbn).1
    simp only [List.getElem?_toArray, List.getElem?_cons_zero] at cP
    have qb1 := pg_lt hP1
    have hwbd : Below b w w1.drew := hwb.trans ((drew_below w1).mono (Nat.le_of_lt qb1))
    have hod : Oth b w w1.drew := ho1.trans (oth_below b (drew_below w1))
    have qP : w.heap.size < w1.heap.size := (Array.getElem?_eq_some_iff.1 hbp).1
    have qN : w.heap.size + 1 < w1.heap.size := (Array.getElem?_eq_some_iff.1 hbn).1
    have HBP := Lib.hid hbp
    have HBN := Lib.hid hbn
    clear hbp hbn HQ HWD
    repeat (first | go_values | go_skip | go_guarded | go_step | go_upon)
    refine (pg_ws b A [40, 41] _ hP1 (by simp; omega)).mono ?_
    rintro e w2 ⟨rfl, hB2, hb2, ho2⟩
    dsimp only
    repeat (first | go_values | go_skip | go_guarded | go_step | go_upon)
    first | go_end0 | go_ret | (refine bodyPost_ret (v := .tuple #[]) (by rfl) rfl ?_)
    exact ⟨rfl, A ++ [40, 41], Wr.put A _, by simp, hB2, hwb.trans hb2, ho1.trans ho2⟩
set_option maxRecDepth 100000 in
set_option maxHeartbeats 6400000 in
theorem expr_k4 {p : Int} {t : List UInt8} {c : BitVec 256} {a : Option Addr} {n cap : Nat} (b : Nat) (A : List UInt8) (w : World) (hp : Pg b b (Lib.byteCells A) w) (hA : A.length ≤ 99999999997000) :
    Calls Tryz.prog 25 #[.pointer (some ⟨b, 0, none⟩), .agg (trC 4 t c (.slice a n cap) p).toArray] w (PgP b A [46] 1 w) := by
  have hlt := pg_lt hp
  have hm1 := cell_alloc_lt
  have HPg := Lib.hid hp
  have HWD := Lib.hid (fun (q : Bool) (hq : decide (8192 < A.length) = q) (w' : World) (h : Below w.heap.size w w') => wide_any b A q hq w' (pg_below hp h))
  clear hp
  dsimp only [trC]
  by_cases hw : 8192 < A.length
  · have HQ := Lib.hid (HWD.out true (decide_eq_true hw))
    go_enter Tryz.func25, Tryz.ntmps25
    repeat (first | go_values | go_skip | go_guarded | go_step | go_upon)
    refine (HQ.out _ (by repeat (first | exact Below.refl _ _ | assumption | refine bal ?_ _ | refine bdr ?_ | refine bdrn ?_ _ | (refine bset ?_ (by first | exact Nat.le_refl _ | (simp; done) | (simp; omega) | omega) _) | refine bstep ?_ (by assumption)))).mono ?_
    rintro e w1 ⟨rfl, hb1⟩
    obtain ⟨hc1, hf1⟩ := bcell hb1
    have hz1 := hb1.size
    try simp at hz1
    dsimp only
    have hw1 : Below w.heap.size w w1 := (by repeat (first | exact Below.refl _ _ | assumption | refine bal ?_ _ | refine bdr ?_ | refine bdrn ?_ _ | (refine bset ?_ (by first | exact Nat.le_refl _ | (simp; done) | (simp; omega) | omega) _) | refine bstep ?_ (by assumption)))
    repeat (first | go_values | go_skip | go_guarded | go_step | go_upon)
    first | go_end0 | go_ret | (refine bodyPost_ret (v := .tuple #[]) (by rfl) rfl ?_)
    exact ⟨rfl, A, Wr.wide hw, by omega, pg_below HPg.out hw1, hw1.mono (Nat.le_of_lt hlt), oth_below b hw1⟩
  · have HQ := Lib.hid (HWD.out false (decide_eq_false hw))
    clear hw
    go_enter Tryz.func25, Tryz.ntmps25
    repeat (first | go_values | go_skip | go_guarded | go_step | go_upon)
    refine (HQ.out _ (by repeat (first | exact Below.refl _ _ | assumption | refine bal ?_ _ | refine bdr ?_ | refine bdrn ?_ _ | (refine bset ?_ (by first | exact Nat.le_refl _ | (simp; done) | (simp; omega) | omega) _) | refine bstep ?_ (by assumption)))).mono ?_
    rintro e w1 ⟨rfl, hb1⟩
    obtain ⟨hc1, hf1⟩ := bcell hb1
    have hz1 := hb1.size
    try simp at hz1
    dsimp only
    have hw1 : Below w.heap.size w w1 := (by repeat (first | exact Below.refl _ _ | assumption | refine bal ?_ _ | refine bdr ?_ | refine bdrn ?_ _ | (refine bset ?_ (by first | exact Nat.le_refl _ | (simp; done) | (simp; omega) | omega) _) | refine bstep ?_ (by assumption)))
    have hwb : Below b w w1 := hw1.mono (Nat.le_of_lt hlt)
    have hP1 := pg_below HPg.out hw1
    have ho1 := oth_below b hw1
    have hbp := (hb1.block w.heap.size (by simp; omega)).trans ((RowKit.Below.heap_alloc _ _ _ (by simp)).trans (heap_alloc_new w _))
    have hbn := (hb1.block (w.heap.size + 1) (by simp)).trans (allocs_new w _ _)
    have cP := (cells_at hbp).1 0
    have cN := (cells_at hbn).1
    simp only [List.getElem?_toArray, List.getElem?_cons_zero] at cP
    have qb1 := pg_lt hP1
    have hwbd : Below b w w1.drew := hwb.trans ((drew_below w1).mono (Nat.le_of_lt qb1))
    have hod : Oth b w w1.drew := ho1.trans (oth_below b (drew_below w1))
    have qP : w.heap.size < w1.heap.size := (Array.getElem?_eq_some_iff.1 hbp).1
    have qN : w.heap.size + 1 < w1.heap.size := (Array.getElem?_eq_some_iff.1 hbn).1
    have HBP := Lib.hid hbp
    have HBN := Lib.hid hbn
    clear hbp hbn HQ HWD
    repeat (first | go_values | go_skip | go_guarded | go_step | go_upon)
    refine (pg_wb b A 46 46 _ rfl hP1 (by omega)).mono ?_
    rintro e w2 ⟨rfl, hB2, hb2, ho2⟩
    dsimp only
    repeat (first | go_values | go_skip | go_guarded | go_step | go_upon)
    first | go_end0 | go_ret | (refine bodyPost_ret (v := .tuple #[]) (by rfl) rfl ?_)
    exact ⟨rfl, A ++ [46], Wr.put A _, by simp, hB2, hwb.trans hb2, ho1.trans ho2⟩
set_option maxRecDepth 100000 in
set_option maxHeartbeats 6400000 in
theorem expr_k5 {p : Int} {t : List UInt8} {c : BitVec 256} {a : Option Addr} {n cap : Nat} (b : Nat) (A : List UInt8) (w : World) (hp : Pg b b (Lib.byteCells A) w) (hA : A.length ≤ 99999999997000) (ht : t.length ≤ 32) :
    Calls Tryz.prog 25 #[.pointer (some ⟨b, 0, none⟩), .agg (trC 5 t c (.slice a n cap) p).toArray] w (PgP b A t 32 w) := by
  have hlt := pg_lt hp
  have hm1 := cell_alloc_lt
  have HPg := Lib.hid hp
  have HWD := Lib.hid (fun (q : Bool) (hq : decide (8192 < A.length) = q) (w' : World) (h : Below w.heap.size w w') => wide_any b A q hq w' (pg_below hp h))
  clear hp
  dsimp only [trC]
  by_cases hw : 8192 < A.length
  · have HQ := Lib.hid (HWD.out true (decide_eq_true hw))
    go_enter Tryz.func25, Tryz.ntmps25
    repeat (first | go_values | go_skip | go_guarded | go_step | go_upon)
    refine (HQ.out _ (by repeat (first | exact Below.refl _ _ | assumption | refine bal ?_ _ | refine bdr ?_ | refine bdrn ?_ _ | (refine bset ?_ (by first | exact Nat.le_refl _ | (simp; done) | (simp; omega) | omega) _) | refine bstep ?_ (by assumption)))).mono ?_
    rintro e w1 ⟨rfl, hb1⟩
    obtain ⟨hc1, hf1⟩ := bcell hb1
    have hz1 := hb1.size
    try simp at hz1
    dsimp only
    have hw1 : Below w.heap.size w w1 := (by repeat (first | exact Below.refl _ _ | assumption | refine bal ?_ _ | refine bdr ?_ | refine bdrn ?_ _ | (refine bset ?_ (by first | exact Nat.le_refl _ | (simp; done) | (simp; omega) | omega) _) | refine bstep ?_ (by assumption)))
    repeat (first | go_values | go_skip | go_guarded | go_step | go_upon)
    first | go_end0 | go_ret | (refine bodyPost_ret (v := .tuple #[]) (by rfl) rfl ?_)
    exact ⟨rfl, A, Wr.wide hw, by omega, pg_below HPg.out hw1, hw1.mono (Nat.le_of_lt hlt), oth_below b hw1⟩
  · have HQ := Lib.hid (HWD.out false (decide_eq_false hw))
    clear hw
    go_enter Tryz.func25, Tryz.ntmps25
    repeat (first | go_values | go_skip | go_guarded | go_step | go_upon)
    refine (HQ.out _ (by repeat (first | exact Below.refl _ _ | assumption | refine bal ?_ _ | refine bdr ?_ | refine bdrn ?_ _ | (refine bset ?_ (by first | exact Nat.le_refl _ | (simp; done) | (simp; omega) | omega) _) | refine bstep ?_ (by assumption)))).mono ?_
    rintro e w1 ⟨rfl, hb1⟩
    obtain ⟨hc1, hf1⟩ := bcell hb1
    have hz1 := hb1.size
    try simp at hz1
    dsimp only
    have hw1 : Below w.heap.size w w1 := (by repeat (first | exact Below.refl _ _ | assumption | refine bal ?_ _ | refine bdr ?_ | refine bdrn ?_ _ | (refine bset ?_ (by first | exact Nat.le_refl _ | (simp; done) | (simp; omega) | omega) _) | refine bstep ?_ (by assumption)))
    have hwb : Below b w w1 := hw1.mono (Nat.le_of_lt hlt)
    have hP1 := pg_below HPg.out hw1
    have ho1 := oth_below b hw1
    have hbp := (hb1.block w.heap.size (by simp; omega)).trans ((RowKit.Below.heap_alloc _ _ _ (by simp)).trans (heap_alloc_new w _))
    have hbn := (hb1.block (w.heap.size + 1) (by simp)).trans (allocs_new w _ _)
    have cP := (cells_at hbp).1 0
    have cN := (cells_at hbn).1
    simp only [List.getElem?_toArray, List.getElem?_cons_zero] at cP
    have qb1 := pg_lt hP1
    have hwbd : Below b w w1.drew := hwb.trans ((drew_below w1).mono (Nat.le_of_lt qb1))
    have hod : Oth b w w1.drew := ho1.trans (oth_below b (drew_below w1))
    have qP : w.heap.size < w1.heap.size := (Array.getElem?_eq_some_iff.1 hbp).1
    have qN : w.heap.size + 1 < w1.heap.size := (Array.getElem?_eq_some_iff.1 hbn).1
    have HBP := Lib.hid hbp
    have HBN := Lib.hid hbn
    clear hbp hbn HQ HWD
    repeat (first | go_values | go_skip | go_guarded | go_step | go_upon)
    go_region_with (go_at_call 24; refine (pg_ws b A t _ (pg_below hP1 (by repeat (first | exact Below.refl _ _ | assumption | refine bal ?_ _ | refine bdr ?_ | refine bdrn ?_ _ | (refine bset ?_ (by first | exact Nat.le_refl _ | (simp; done) | (simp; omega) | omega) _) | refine bstep ?_ (by assumption)))) (by omega)).mono ?_; rintro e w2 ⟨rfl, hB2, hb2, ho2⟩; try dsimp only)
    all_goals (first | go_end0 | go_ret | (refine bodyPost_ret (v := .tuple #[]) (by rfl) rfl ?_))
    all_goals (exact ⟨rfl, A ++ t, Wr.put A _, by simp; omega, hB2, hwbd.trans hb2, hod.trans ho2⟩)
set_option maxRecDepth 100000 in
set_option maxHeartbeats 6400000 in
theorem expr_k2 {p : Int} {t : List UInt8} {c : BitVec 256} {a : Option Addr} {n cap : Nat} (b : Nat) (A : List UInt8) (w : World) (hp : Pg b b (Lib.byteCells A) w) (hA : A.length ≤ 99999999997000) (ht : t.length ≤ 255) :
    Calls Tryz.prog 25 #[.pointer (some ⟨b, 0, none⟩), .agg (trC 2 t c (.slice a n cap) p).toArray] w (PgP b A (quoted t) 1022 w) := by
  have hlt := pg_lt hp
  have hm1 := cell_alloc_lt
  have HPg := Lib.hid hp
  have HWD := Lib.hid (fun (q : Bool) (hq : decide (8192 < A.length) = q) (w' : World) (h : Below w.heap.size w w') => wide_any b A q hq w' (pg_below hp h))
  have HQU := Lib.hid (fun w => quote_any (mkS t) w (by rw [mkS_size]; omega))
  rw [mkS_bl'] at HQU
  have hql := quoted_le t
  clear hp
  dsimp only [trC]
  by_cases hw : 8192 < A.length
  · have HQ := Lib.hid (HWD.out true (decide_eq_true hw))
    go_enter Tryz.func25, Tryz.ntmps25
    repeat (first | go_values | go_skip | go_guarded | go_step | go_upon)
    refine (HQ.out _ (by repeat (first | exact Below.refl _ _ | assumption | refine bal ?_ _ | refine bdr ?_ | refine bdrn ?_ _ | (refine bset ?_ (by first | exact Nat.le_refl _ | (simp; done) | (simp; omega) | omega) _) | refine bstep ?_ (by assumption)))).mono ?_
    rintro e w1 ⟨rfl, hb1⟩
    obtain ⟨hc1, hf1⟩ := bcell hb1
    have hz1 := hb1.size
    try simp at hz1
    dsimp only
    have hw1 : Below w.heap.size w w1 := (by repeat (first | exact Below.refl _ _ | assumption | refine bal ?_ _ | refine bdr ?_ | refine bdrn ?_ _ | (refine bset ?_ (by first | exact Nat.le_refl _ | (simp; done) | (simp; omega) | omega) _) | refine bstep ?_ (by assumption)))
    repeat (first | go_values | go_skip | go_guarded | go_step | go_upon)
    first | go_end0 | go_ret | (refine bodyPost_ret (v := .tuple #[]) (by rfl) rfl ?_)
    exact ⟨rfl, A, Wr.wide hw, by omega, pg_below HPg.out hw1, hw1.mono (Nat.le_of_lt hlt), oth_below b hw1⟩
  · have HQ := Lib.hid (HWD.out false (decide_eq_false hw))
    clear hw
    go_enter Tryz.func25, Tryz.ntmps25
    repeat (first | go_values | go_skip | go_guarded | go_step | go_upon)
    refine (HQ.out _ (by repeat (first | exact Below.refl _ _ | assumption | refine bal ?_ _ | refine bdr ?_ | refine bdrn ?_ _ | (refine bset ?_ (by first | exact Nat.le_refl _ | (simp; done) | (simp; omega) | omega) _) | refine bstep ?_ (by assumption)))).mono ?_
    rintro e w1 ⟨rfl, hb1⟩
    obtain ⟨hc1, hf1⟩ := bcell hb1
    have hz1 := hb1.size
    try simp at hz1
    dsimp only
    have hw1 : Below w.heap.size w w1 := (by repeat (first | exact Below.refl _ _ | assumption | refine bal ?_ _ | refine bdr ?_ | refine bdrn ?_ _ | (refine bset ?_ (by first | exact Nat.le_refl _ | (simp; done) | (simp; omega) | omega) _) | refine bstep ?_ (by assumption)))
    have hwb : Below b w w1 := hw1.mono (Nat.le_of_lt hlt)
    have hP1 := pg_below HPg.out hw1
    have ho1 := oth_below b hw1
    have hbp := (hb1.block w.heap.size (by simp; omega)).trans ((RowKit.Below.heap_alloc _ _ _ (by simp)).trans (heap_alloc_new w _))
    have hbn := (hb1.block (w.heap.size + 1) (by simp)).trans (allocs_new w _ _)
    have cP := (cells_at hbp).1 0
    have cN := (cells_at hbn).1
    simp only [List.getElem?_toArray, List.getElem?_cons_zero] at cP
    have qb1 := pg_lt hP1
    have hwbd : Below b w w1.drew := hwb.trans ((drew_below w1).mono (Nat.le_of_lt qb1))
    have hod : Oth b w w1.drew := ho1.trans (oth_below b (drew_below w1))
    have qP : w.heap.size < w1.heap.size := (Array.getElem?_eq_some_iff.1 hbp).1
    have qN : w.heap.size + 1 < w1.heap.size := (Array.getElem?_eq_some_iff.1 hbn).1
    have HBP := Lib.hid hbp
    have HBN := Lib.hid hbn
    clear hbp hbn HQ HWD
    repeat (first | go_values | go_skip | go_guarded | go_step | go_upon)
    go_region_with (first | (go_at_call 52; refine (HQU.out _).mono ?_; rintro e w3 ⟨rfl, hb3⟩; have cP3 := (hb3.cell (p := ⟨w.heap.size, 0, none⟩) qP).trans cP; have hP3 := pg_below (pg_below hP1 (drew_below w1)) hb3; try dsimp only) | (go_at_call 24; refine (pg_ws b A (quoted t) _ hP3 (by omega)).mono ?_; rintro e w2 ⟨rfl, hB2, hb2, ho2⟩; try dsimp only))
    all_goals (first | go_end0 | go_ret | (refine bodyPost_ret (v := .tuple #[]) (by rfl) rfl ?_))
    all_goals (exact ⟨rfl, A ++ (quoted t), Wr.put A _, by rw [List.length_append]; omega, hB2, hwbd.trans ((hb3.mono (Nat.le_of_lt qb1)).trans hb2), hod.trans ((oth_below b hb3).trans ho2)⟩)
set_option maxRecDepth 100000 in
set_option maxHeartbeats 6400000 in
theorem expr_k3 {p : Int} {t : List UInt8} {c : BitVec 256} {a : Option Addr} {n cap : Nat} (b : Nat) (A : List UInt8) (w : World) (hp : Pg b b (Lib.byteCells A) w) (hA : A.length ≤ 99999999997000) :
    Calls Tryz.prog 25 #[.pointer (some ⟨b, 0, none⟩), .agg (trC 3 t c (.slice a n cap) p).toArray] w (PgP b A (txt c) 2400 w) := by
  have hlt := pg_lt hp
  have hm1 := cell_alloc_lt
  have HPg := Lib.hid hp
  have HWD := Lib.hid (fun (q : Bool) (hq : decide (8192 < A.length) = q) (w' : World) (h : Below w.heap.size w w') => wide_any b A q hq w' (pg_below hp h))
  have HQU := Lib.hid (fun w => text_any c w)
  have hql := txt_le c
  clear hp
  dsimp only [trC]
  by_cases hw : 8192 < A.length
  · have HQ := Lib.hid (HWD.out true (decide_eq_true hw))
    go_enter Tryz.func25, Tryz.ntmps25
    repeat (first | go_values | go_skip | go_guarded | go_step | go_upon)
    refine (HQ.out _ (by repeat (first | exact Below.refl _ _ | assumption | refine bal ?_ _ | refine bdr ?_ | refine bdrn ?_ _ | (refine bset ?_ (by first | exact Nat.le_refl _ | (simp; done) | (simp; omega) | omega) _) | refine bstep ?_ (by assumption)))).mono ?_
    rintro e w1 ⟨rfl, hb1⟩
    obtain ⟨hc1, hf1⟩ := bcell hb1
    have hz1 := hb1.size
    try simp at hz1
    dsimp only
    have hw1 : Below w.heap.size w w1 := (by repeat (first | exact Below.refl _ _ | assumption | refine bal ?_ _ | refine bdr ?_ | refine bdrn ?_ _ | (refine bset ?_ (by first | exact Nat.le_refl _ | (simp; done) | (simp; omega) | omega) _) | refine bstep ?_ (by assumption)))
    repeat (first | go_values | go_skip | go_guarded | go_step | go_upon)
    first | go_end0 | go_ret | (refine bodyPost_ret (v := .tuple #[]) (by rfl) rfl ?_)
    exact ⟨rfl, A, Wr.wide hw, by omega, pg_below HPg.out hw1, hw1.mono (Nat.le_of_lt hlt), oth_below b hw1⟩
  · have HQ := Lib.hid (HWD.out false (decide_eq_false hw))
    clear hw
    go_enter Tryz.func25, Tryz.ntmps25
    repeat (first | go_values | go_skip | go_guarded | go_step | go_upon)
    refine (HQ.out _ (by repeat (first | exact Below.refl _ _ | assumption | refine bal ?_ _ | refine bdr ?_ | refine bdrn ?_ _ | (refine bset ?_ (by first | exact Nat.le_refl _ | (simp; done) | (simp; omega) | omega) _) | refine bstep ?_ (by assumption)))).mono ?_
    rintro e w1 ⟨rfl, hb1⟩
    obtain ⟨hc1, hf1⟩ := bcell hb1
    have hz1 := hb1.size
    try simp at hz1
    dsimp only
    have hw1 : Below w.heap.size w w1 := (by repeat (first | exact Below.refl _ _ | assumption | refine bal ?_ _ | refine bdr ?_ | refine bdrn ?_ _ | (refine bset ?_ (by first | exact Nat.le_refl _ | (simp; done) | (simp; omega) | omega) _) | refine bstep ?_ (by assumption)))
    have hwb : Below b w w1 := hw1.mono (Nat.le_of_lt hlt)
    have hP1 := pg_below HPg.out hw1
    have ho1 := oth_below b hw1
    have hbp := (hb1.block w.heap.size (by simp; omega)).trans ((RowKit.Below.heap_alloc _ _ _ (by simp)).trans (heap_alloc_new w _))
    have hbn := (hb1.block (w.heap.size + 1) (by simp)).trans (allocs_new w _ _)
    have cP := (cells_at hbp).1 0
    have cN := (cells_at hbn).1
    simp only [List.getElem?_toArray, List.getElem?_cons_zero] at cP
    have qb1 := pg_lt hP1
    have hwbd : Below b w w1.drew := hwb.trans ((drew_below w1).mono (Nat.le_of_lt qb1))
    have hod : Oth b w w1.drew := ho1.trans (oth_below b (drew_below w1))
    have qP : w.heap.size < w1.heap.size := (Array.getElem?_eq_some_iff.1 hbp).1
    have qN : w.heap.size + 1 < w1.heap.size := (Array.getElem?_eq_some_iff.1 hbn).1
    have HBP := Lib.hid hbp
    have HBN := Lib.hid hbn
    clear hbp hbn HQ HWD
    repeat (first | go_values | go_skip | go_guarded | go_step | go_upon)
    go_region_with (first | (go_at_call 53; refine (HQU.out _).mono ?_; rintro e w3 ⟨rfl, hb3⟩; have cP3 := (hb3.cell (p := ⟨w.heap.size, 0, none⟩) qP).trans cP; have hP3 := pg_below (pg_below hP1 (drew_below w1)) hb3; try dsimp only) | (go_at_call 24; refine (pg_ws b A (txt c) _ hP3 (by omega)).mono ?_; rintro e w2 ⟨rfl, hB2, hb2, ho2⟩; try dsimp only))
    all_goals (first | go_end0 | go_ret | (refine bodyPost_ret (v := .tuple #[]) (by rfl) rfl ?_))
    all_goals (exact ⟨rfl, A ++ (txt c), Wr.put A _, by rw [List.length_append]; omega, hB2, hwbd.trans ((hb3.mono (Nat.le_of_lt qb1)).trans hb2), hod.trans ((oth_below b hb3).trans ho2)⟩)
end Go.Proofs.YteohgaheockepaaGreatDoor
namespace Go.Proofs.YteohgaheockepaaGreatDoor
open Go.RowKit Go.Sort

set_option maxRecDepth 100000 in
set_option maxHeartbeats 6400000 in
theorem expr_k7 {p : Int} {t : List UInt8} {c : BitVec 256} {a : Option Addr} {n cap : Nat} (b : Nat) (A : List UInt8) (w : World) (hp : Pg b b (Lib.byteCells A) w) (_ : A.length ≤ 99999999997000) {P : Nat → Prop} {l : List Tr} (_ : l.length = n) (IH : ∀ m ∈ l, ExprC m) (ho : ∀ m ∈ l, OkT m) (hl : RepL w P l (.slice a n cap)) (hP : ∀ x, P x → x < b) (hbk : A.length + 3000 * Tr.bulks l ≤ 99999999997000) :
    Calls Tryz.prog 25 #[.pointer (some ⟨b, 0, none⟩), .agg (trC 7 t c (.slice a n cap) p).toArray] w (PgP b A (rowTx [32, 47, 32] 1 l) (3000 * Tr.bulks l) w) := by
  have hlt := pg_lt hp
  have hm1 := cell_alloc_lt
  have HPg := Lib.hid hp
  have HWD := Lib.hid (fun (q : Bool) (hq : decide (8192 < A.length) = q) (w' : World) (h : Below w.heap.size w w') => wide_any b A q hq w' (pg_below hp h))
  have HI := Lib.hid IH
  have HO := Lib.hid ho
  have HL := Lib.hid hl
  have HP := Lib.hid hP
  have HBK := Lib.hid hbk
  clear IH ho hl hP hbk
  clear hp
  dsimp only [trC]
  by_cases hw : 8192 < A.length
  · have HQ := Lib.hid (HWD.out true (decide_eq_true hw))
    go_enter Tryz.func25, Tryz.ntmps25
    repeat (first | go_values | go_skip | go_guarded | go_step | go_upon)
    refine (HQ.out _ (by repeat (first | exact Below.refl _ _ | assumption | refine bal ?_ _ | refine bdr ?_ | refine bdrn ?_ _ | (refine bset ?_ (by first | exact Nat.le_refl _ | (simp; done) | (simp; omega) | omega) _) | refine bstep ?_ (by assumption)))).mono ?_
    rintro e w1 ⟨rfl, hb1⟩
    obtain ⟨hc1, hf1⟩ := bcell hb1
    have hz1 := hb1.size
    try simp at hz1
    dsimp only
    have hw1 : Below w.heap.size w w1 := (by repeat (first | exact Below.refl _ _ | assumption | refine bal ?_ _ | refine bdr ?_ | refine bdrn ?_ _ | (refine bset ?_ (by first | exact Nat.le_refl _ | (simp; done) | (simp; omega) | omega) _) | refine bstep ?_ (by assumption)))
    repeat (first | go_values | go_skip | go_guarded | go_step | go_upon)
    first | go_end0 | go_ret | (refine bodyPost_ret (v := .tuple #[]) (by rfl) rfl ?_)
    exact ⟨rfl, A, Wr.wide hw, by omega, pg_below HPg.out hw1, hw1.mono (Nat.le_of_lt hlt), oth_below b hw1⟩
  · have HQ := Lib.hid (HWD.out false (decide_eq_false hw))
    clear hw
    go_enter Tryz.func25, Tryz.ntmps25
    repeat (first | go_values | go_skip | go_guarded | go_step | go_upon)
    refine (HQ.out _ (by repeat (first | exact Below.refl _ _ | assumption | refine bal ?_ _ | refine bdr ?_ | refine bdrn ?_ _ | (refine bset ?_ (by first | exact Nat.le_refl _ | (simp; done) | (simp; omega) | omega) _) | refine bstep ?_ (by assumption)))).mono ?_
    rintro e w1 ⟨rfl, hb1⟩
    obtain ⟨hc1, hf1⟩ := bcell hb1
    have hz1 := hb1.size
    try simp at hz1
    dsimp only
    have hw1 : Below w.heap.size w w1 := (by repeat (first | exact Below.refl _ _ | assumption | refine bal ?_ _ | refine bdr ?_ | refine bdrn ?_ _ | (refine bset ?_ (by first | exact Nat.le_refl _ | (simp; done) | (simp; omega) | omega) _) | refine bstep ?_ (by assumption)))
    have hwb : Below b w w1 := hw1.mono (Nat.le_of_lt hlt)
    have hP1 := pg_below HPg.out hw1
    have ho1 := oth_below b hw1
    have hbp := (hb1.block w.heap.size (by simp; omega)).trans ((RowKit.Below.heap_alloc _ _ _ (by simp)).trans (heap_alloc_new w _))
    have hbn := (hb1.block (w.heap.size + 1) (by simp)).trans (allocs_new w _ _)
    have cP := (cells_at hbp).1 0
    have cN := (cells_at hbn).1
    simp only [List.getElem?_toArray, List.getElem?_cons_zero] at cP
    have qb1 := pg_lt hP1
    have hwbd : Below b w w1.drew := hwb.trans ((drew_below w1).mono (Nat.le_of_lt qb1))
    have hod : Oth b w w1.drew := ho1.trans (oth_below b (drew_below w1))
    have qP : w.heap.size < w1.heap.size := (Array.getElem?_eq_some_iff.1 hbp).1
    have qN : w.heap.size + 1 < w1.heap.size := (Array.getElem?_eq_some_iff.1 hbn).1
    have HBP := Lib.hid hbp
    have HBN := Lib.hid hbn
    clear hbp hbn HQ HWD
    repeat (first | go_values | go_skip | go_guarded | go_step | go_upon)
    refine (prow_any HI.out HO.out [32, 47, 32] (by decide) 1 b _ _ A w1 P HBN.out HBP.out (by omega) (by omega) (HL.out.mono (fun y hy => hwb.block y (HP.out y hy)) (fun _ h => h)) HP.out hP1 (by have := HBK.out; omega)).mono ?_
    rintro e w2 ⟨rfl, A', h1, h2, h3, h4, h5⟩
    dsimp only
    repeat (first | go_values | go_skip | go_guarded | go_step | go_upon)
    first | go_end0 | go_ret | (refine bodyPost_ret (v := .tuple #[]) (by rfl) rfl ?_)
    exact ⟨rfl, A', h1, by omega, h3, hwb.trans h4, ho1.trans h5⟩
set_option maxRecDepth 100000 in
set_option maxHeartbeats 6400000 in
theorem expr_k6 {p : Int} {t : List UInt8} {c : BitVec 256} {a : Option Addr} {n cap : Nat} (b : Nat) (A : List UInt8) (w : World) (hp : Pg b b (Lib.byteCells A) w) (_ : A.length ≤ 99999999997000) {P : Nat → Prop} {l : List Tr} (_ : l.length = n) (IH : ∀ m ∈ l, ExprC m) (ho : ∀ m ∈ l, OkT m) (hl : RepL w P l (.slice a n cap)) (hP : ∀ x, P x → x < b) (hbk : A.length + 3000 * Tr.bulks l ≤ 99999999997000) :
    Calls Tryz.prog 25 #[.pointer (some ⟨b, 0, none⟩), .agg (trC 6 t c (.slice a n cap) p).toArray] w (PgP b A (rowTx [32] 2 l) (3000 * Tr.bulks l) w) := by
  have hlt := pg_lt hp
  have hm1 := cell_alloc_lt
  have HPg := Lib.hid hp
  have HWD := Lib.hid (fun (q : Bool) (hq : decide (8192 < A.length) = q) (w' : World) (h : Below w.heap.size w w') => wide_any b A q hq w' (pg_below hp h))
  have HI := Lib.hid IH
  have HO := Lib.hid ho
  have HL := Lib.hid hl
  have HP := Lib.hid hP
  have HBK := Lib.hid hbk
  clear IH ho hl hP hbk
  clear hp
  dsimp only [trC]
  by_cases hw : 8192 < A.length
  · have HQ := Lib.hid (HWD.out true (decide_eq_true hw))
    go_enter Tryz.func25, Tryz.ntmps25
    repeat (first | go_values | go_skip | go_guarded | go_step | go_upon)
    refine (HQ.out _ (by repeat (first | exact Below.refl _ _ | assumption | refine bal ?_ _ | refine bdr ?_ | refine bdrn ?_ _ | (refine bset ?_ (by first | exact Nat.le_refl _ | (simp; done) | (simp; omega) | omega) _) | refine bstep ?_ (by assumption)))).mono ?_
    rintro e w1 ⟨rfl, hb1⟩
    obtain ⟨hc1, hf1⟩ := bcell hb1
    have hz1 := hb1.size
    try simp at hz1
    dsimp only
    have hw1 : Below w.heap.size w w1 := (by repeat (first | exact Below.refl _ _ | assumption | refine bal ?_ _ | refine bdr ?_ | refine bdrn ?_ _ | (refine bset ?_ (by first | exact Nat.le_refl _ | (simp; done) | (simp; omega) | omega) _) | refine bstep ?_ (by assumption)))
    repeat (first | go_values | go_skip | go_guarded | go_step | go_upon)
    first | go_end0 | go_ret | (refine bodyPost_ret (v := .tuple #[]) (by rfl) rfl ?_)
    exact ⟨rfl, A, Wr.wide hw, by omega, pg_below HPg.out hw1, hw1.mono (Nat.le_of_lt hlt), oth_below b hw1⟩
  · have HQ := Lib.hid (HWD.out false (decide_eq_false hw))
    clear hw
    go_enter Tryz.func25, Tryz.ntmps25
    repeat (first | go_values | go_skip | go_guarded | go_step | go_upon)
    refine (HQ.out _ (by repeat (first | exact Below.refl _ _ | assumption | refine bal ?_ _ | refine bdr ?_ | refine bdrn ?_ _ | (refine bset ?_ (by first | exact Nat.le_refl _ | (simp; done) | (simp; omega) | omega) _) | refine bstep ?_ (by assumption)))).mono ?_
    rintro e w1 ⟨rfl, hb1⟩
    obtain ⟨hc1, hf1⟩ := bcell hb1
    have hz1 := hb1.size
    try simp at hz1
    dsimp only
    have hw1 : Below w.heap.size w w1 := (by repeat (first | exact Below.refl _ _ | assumption | refine bal ?_ _ | refine bdr ?_ | refine bdrn ?_ _ | (refine bset ?_ (by first | exact Nat.le_refl _ | (simp; done) | (simp; omega) | omega) _) | refine bstep ?_ (by assumption)))
    have hwb : Below b w w1 := hw1.mono (Nat.le_of_lt hlt)
    have hP1 := pg_below HPg.out hw1
    have ho1 := oth_below b hw1
    have hbp := (hb1.block w.heap.size (by simp; omega)).trans ((RowKit.Below.heap_alloc _ _ _ (by simp)).trans (heap_alloc_new w _))
    have hbn := (hb1.block (w.heap.size + 1) (by simp)).trans (allocs_new w _ _)
    have cP := (cells_at hbp).1 0
    have cN := (cells_at hbn).1
    simp only [List.getElem?_toArray, List.getElem?_cons_zero] at cP
    have qb1 := pg_lt hP1
    have hwbd : Below b w w1.drew := hwb.trans ((drew_below w1).mono (Nat.le_of_lt qb1))
    have hod : Oth b w w1.drew := ho1.trans (oth_below b (drew_below w1))
    have qP : w.heap.size < w1.heap.size := (Array.getElem?_eq_some_iff.1 hbp).1
    have qN : w.heap.size + 1 < w1.heap.size := (Array.getElem?_eq_some_iff.1 hbn).1
    have HBP := Lib.hid hbp
    have HBN := Lib.hid hbn
    clear hbp hbn HQ HWD
    repeat (first | go_values | go_skip | go_guarded | go_step | go_upon)
    refine (prow_any HI.out HO.out [32] (by decide) 2 b _ _ A w1 P HBN.out HBP.out (by omega) (by omega) (HL.out.mono (fun y hy => hwb.block y (HP.out y hy)) (fun _ h => h)) HP.out hP1 (by have := HBK.out; omega)).mono ?_
    rintro e w2 ⟨rfl, A', h1, h2, h3, h4, h5⟩
    dsimp only
    repeat (first | go_values | go_skip | go_guarded | go_step | go_upon)
    first | go_end0 | go_ret | (refine bodyPost_ret (v := .tuple #[]) (by rfl) rfl ?_)
    exact ⟨rfl, A', h1, by omega, h3, hwb.trans h4, ho1.trans h5⟩
set_option maxRecDepth 100000 in
set_option maxHeartbeats 6400000 in
theorem expr_k11 {p : Int} {t : List UInt8} {c : BitVec 256} {a : Option Addr} {n cap : Nat} (b : Nat) (A : List UInt8) (w : World) (hp : Pg b b (Lib.byteCells A) w) (hA : A.length ≤ 99999999997000) {P : Nat → Prop} {l : List Tr} (_ : l.length = n) (IH : ∀ m ∈ l, ExprC m) (ho : ∀ m ∈ l, OkT m) (hl : RepL w P l (.slice a n cap)) (hP : ∀ x, P x → x < b) (hbk : A.length + 3000 * Tr.bulks l ≤ 99999999997000) :
    Calls Tryz.prog 25 #[.pointer (some ⟨b, 0, none⟩), .agg (trC 11 t c (.slice a n cap) p).toArray] w (PgP b A ([38] ++ rowTx [] 3 l) (3000 * Tr.bulks l + 1) w) := by
  have hlt := pg_lt hp
  have hm1 := cell_alloc_lt
  have HPg := Lib.hid hp
  have HWD := Lib.hid (fun (q : Bool) (hq : decide (8192 < A.length) = q) (w' : World) (h : Below w.heap.size w w') => wide_any b A q hq w' (pg_below hp h))
  have HI := Lib.hid IH
  have HO := Lib.hid ho
  have HL := Lib.hid hl
  have HP := Lib.hid hP
  have HBK := Lib.hid hbk
  clear IH ho hl hP hbk
  clear hp
  dsimp only [trC]
  by_cases hw : 8192 < A.length
  · have HQ := Lib.hid (HWD.out true (decide_eq_true hw))
    go_enter Tryz.func25, Tryz.ntmps25
    repeat (first | go_values | go_skip | go_guarded | go_step | go_upon)
    refine (HQ.out _ (by repeat (first | exact Below.refl _ _ | assumption | refine bal ?_ _ | refine bdr ?_ | refine bdrn ?_ _ | (refine bset ?_ (by first | exact Nat.le_refl _ | (simp; done) | (simp; omega) | omega) _) | refine bstep ?_ (by assumption)))).mono ?_
    rintro e w1 ⟨rfl, hb1⟩
    obtain ⟨hc1, hf1⟩ := bcell hb1
    have hz1 := hb1.size
    try simp at hz1
    dsimp only
    have hw1 : Below w.heap.size w w1 := (by repeat (first | exact Below.refl _ _ | assumption | refine bal ?_ _ | refine bdr ?_ | refine bdrn ?_ _ | (refine bset ?_ (by first | exact Nat.le_refl _ | (simp; done) | (simp; omega) | omega) _) | refine bstep ?_ (by assumption)))
    repeat (first | go_values | go_skip | go_guarded | go_step | go_upon)
    first | go_end0 | go_ret | (refine bodyPost_ret (v := .tuple #[]) (by rfl) rfl ?_)
    exact ⟨rfl, A, Wr.wide hw, by omega, pg_below HPg.out hw1, hw1.mono (Nat.le_of_lt hlt), oth_below b hw1⟩
  · have HQ := Lib.hid (HWD.out false (decide_eq_false hw))
    clear hw
    go_enter Tryz.func25, Tryz.ntmps25
    repeat (first | go_values | go_skip | go_guarded | go_step | go_upon)
    refine (HQ.out _ (by repeat (first | exact Below.refl _ _ | assumption | refine bal ?_ _ | refine bdr ?_ | refine bdrn ?_ _ | (refine bset ?_ (by first | exact Nat.le_refl _ | (simp; done) | (simp; omega) | omega) _) | refine bstep ?_ (by assumption)))).mono ?_
    rintro e w1 ⟨rfl, hb1⟩
    obtain ⟨hc1, hf1⟩ := bcell hb1
    have hz1 := hb1.size
    try simp at hz1
    dsimp only
    have hw1 : Below w.heap.size w w1 := (by repeat (first | exact Below.refl _ _ | assumption | refine bal ?_ _ | refine bdr ?_ | refine bdrn ?_ _ | (refine bset ?_ (by first | exact Nat.le_refl _ | (simp; done) | (simp; omega) | omega) _) | refine bstep ?_ (by assumption)))
    have hwb : Below b w w1 := hw1.mono (Nat.le_of_lt hlt)
    have hP1 := pg_below HPg.out hw1
    have ho1 := oth_below b hw1
    have hbp := (hb1.block w.heap.size (by simp; omega)).trans ((RowKit.Below.heap_alloc _ _ _ (by simp)).trans (heap_alloc_new w _))
    have hbn := (hb1.block (w.heap.size + 1) (by simp)).trans (allocs_new w _ _)
    have cP := (cells_at hbp).1 0
    have cN := (cells_at hbn).1
    simp only [List.getElem?_toArray, List.getElem?_cons_zero] at cP
    have qb1 := pg_lt hP1
    have hwbd : Below b w w1.drew := hwb.trans ((drew_below w1).mono (Nat.le_of_lt qb1))
    have hod : Oth b w w1.drew := ho1.trans (oth_below b (drew_below w1))
    have qP : w.heap.size < w1.heap.size := (Array.getElem?_eq_some_iff.1 hbp).1
    have qN : w.heap.size + 1 < w1.heap.size := (Array.getElem?_eq_some_iff.1 hbn).1
    have HBP := Lib.hid hbp
    have HBN := Lib.hid hbn
    clear hbp hbn HQ HWD
    repeat (first | go_values | go_skip | go_guarded | go_step | go_upon)
    go_region_with (go_at_call 26; refine (pg_wb b A 38 38 _ rfl (pg_below hP1 (drew_below w1)) (by omega)).mono ?_; rintro e w2 ⟨rfl, hB2, hb2, ho2⟩; try dsimp only)
    all_goals (have HBN2 := Lib.hid (oth_cell ho2 (show w1.drew.heap[w.heap.size + 1]? = _ from HBN.out) (by omega) (by decide)); have HBP2 := Lib.hid (oth_cell ho2 (show w1.drew.heap[w.heap.size]? = _ from HBP.out) (by omega) (by decide)); have hw2 : Below b w w2 := hwbd.trans hb2)
    all_goals (repeat (first | go_values | go_skip | go_guarded | go_step | go_upon))
    all_goals (refine (prow_any HI.out HO.out [] (by decide) 3 b _ _ (A ++ [38]) w2 P HBN2.out HBP2.out (by omega) (by omega) (HL.out.mono (fun y hy => hw2.block y (HP.out y hy)) (fun _ h => h)) HP.out hB2 (by have := HBK.out; rw [List.length_append, List.length_singleton]; omega)).mono ?_)
    all_goals (rintro e w3 ⟨rfl, A', h1, h2, h3, h4, h5⟩)
    all_goals (rw [List.length_append, List.length_singleton] at h2; dsimp only)
    all_goals (repeat (first | go_values | go_skip | go_guarded | go_step | go_upon))
    all_goals (first | go_end0 | go_ret | (refine bodyPost_ret (v := .tuple #[]) (by rfl) rfl ?_))
    all_goals (exact ⟨rfl, A', (Wr.put A [38]).trans h1, by omega, h3, hw2.trans h4, hod.trans (ho2.trans h5)⟩)
end Go.Proofs.YteohgaheockepaaGreatDoor
namespace Go.Proofs.YteohgaheockepaaGreatDoor
open Go.RowKit Go.Sort

set_option maxRecDepth 100000 in
set_option maxHeartbeats 6400000 in
theorem expr_k12 {p : Int} {t : List UInt8} {c : BitVec 256} {a : Option Addr} {n cap : Nat} (b : Nat) (A : List UInt8) (w : World) (hp : Pg b b (Lib.byteCells A) w) (hA : A.length ≤ 99999999997000) {P : Nat → Prop} {l : List Tr} (_ : l.length = n) (IH : ∀ m ∈ l, ExprC m) (ho : ∀ m ∈ l, OkT m) (hl : RepL w P l (.slice a n cap)) (hP : ∀ x, P x → x < b) (hbk : A.length + 3000 * Tr.bulks l ≤ 99999999997000) :
    Calls Tryz.prog 25 #[.pointer (some ⟨b, 0, none⟩), .agg (trC 12 t c (.slice a n cap) p).toArray] w (PgP b A ([33] ++ rowTx [] 3 l) (3000 * Tr.bulks l + 1) w) := by
  have hlt := pg_lt hp
  have hm1 := cell_alloc_lt
  have HPg := Lib.hid hp
  have HWD := Lib.hid (fun (q : Bool) (hq : decide (8192 < A.length) = q) (w' : World) (h : Below w.heap.size w w') => wide_any b A q hq w' (pg_below hp h))
  have HI := Lib.hid IH
  have HO := Lib.hid ho
  have HL := Lib.hid hl
  have HP := Lib.hid hP
  have HBK := Lib.hid hbk
  clear IH ho hl hP hbk
  clear hp
  dsimp only [trC]
  by_cases hw : 8192 < A.length
  · have HQ := Lib.hid (HWD.out true (decide_eq_true hw))
    go_enter Tryz.func25, Tryz.ntmps25
    repeat (first | go_values | go_skip | go_guarded | go_step | go_upon)
    refine (HQ.out _ (by repeat (first | exact Below.refl _ _ | assumption | refine bal ?_ _ | refine bdr ?_ | refine bdrn ?_ _ | (refine bset ?_ (by first | exact Nat.le_refl _ | (simp; done) | (simp; omega) | omega) _) | refine bstep ?_ (by assumption)))).mono ?_
    rintro e w1 ⟨rfl, hb1⟩
    obtain ⟨hc1, hf1⟩ := bcell hb1
    have hz1 := hb1.size
    try simp at hz1
    dsimp only
    have hw1 : Below w.heap.size w w1 := (by repeat (first | exact Below.refl _ _ | assumption | refine bal ?_ _ | refine bdr ?_ | refine bdrn ?_ _ | (refine bset ?_ (by first | exact Nat.le_refl _ | (simp; done) | (simp; omega) | omega) _) | refine bstep ?_ (by assumption)))
    repeat (first | go_values | go_skip | go_guarded | go_step | go_upon)
    first | go_end0 | go_ret | (refine bodyPost_ret (v := .tuple #[]) (by rfl) rfl ?_)
    exact ⟨rfl, A, Wr.wide hw, by omega, pg_below HPg.out hw1, hw1.mono (Nat.le_of_lt hlt), oth_below b hw1⟩
  · have HQ := Lib.hid (HWD.out false (decide_eq_false hw))
    clear hw
    go_enter Tryz.func25, Tryz.ntmps25
    repeat (first | go_values | go_skip | go_guarded | go_step | go_upon)
    refine (HQ.out _ (by repeat (first | exact Below.refl _ _ | assumption | refine bal ?_ _ | refine bdr ?_ | refine bdrn ?_ _ | (refine bset ?_ (by first | exact Nat.le_refl _ | (simp; done) | (simp; omega) | omega) _) | refine bstep ?_ (by assumption)))).mono ?_
    rintro e w1 ⟨rfl, hb1⟩
    obtain ⟨hc1, hf1⟩ := bcell hb1
    have hz1 := hb1.size
    try simp at hz1
    dsimp only
    have hw1 : Below w.heap.size w w1 := (by repeat (first | exact Below.refl _ _ | assumption | refine bal ?_ _ | refine bdr ?_ | refine bdrn ?_ _ | (refine bset ?_ (by first | exact Nat.le_refl _ | (simp; done) | (simp; omega) | omega) _) | refine bstep ?_ (by assumption)))
    have hwb : Below b w w1 := hw1.mono (Nat.le_of_lt hlt)
    have hP1 := pg_below HPg.out hw1
    have ho1 := oth_below b hw1
    have hbp := (hb1.block w.heap.size (by simp; omega)).trans ((RowKit.Below.heap_alloc _ _ _ (by simp)).trans (heap_alloc_new w _))
    have hbn := (hb1.block (w.heap.size + 1) (by simp)).trans (allocs_new w _ _)
    have cP := (cells_at hbp).1 0
    have cN := (cells_at hbn).1
    simp only [List.getElem?_toArray, List.getElem?_cons_zero] at cP
    have qb1 := pg_lt hP1
    have hwbd : Below b w w1.drew := hwb.trans ((drew_below w1).mono (Nat.le_of_lt qb1))
    have hod : Oth b w w1.drew := ho1.trans (oth_below b (drew_below w1))
    have qP : w.heap.size < w1.heap.size := (Array.getElem?_eq_some_iff.1 hbp).1
    have qN : w.heap.size + 1 < w1.heap.size := (Array.getElem?_eq_some_iff.1 hbn).1
    have HBP := Lib.hid hbp
    have HBN := Lib.hid hbn
    clear hbp hbn HQ HWD
    repeat (first | go_values | go_skip | go_guarded | go_step | go_upon)
    go_region_with (go_at_call 26; refine (pg_wb b A 33 33 _ rfl (pg_below hP1 (drew_below w1)) (by omega)).mono ?_; rintro e w2 ⟨rfl, hB2, hb2, ho2⟩; try dsimp only)
    all_goals (have HBN2 := Lib.hid (oth_cell ho2 (show w1.drew.heap[w.heap.size + 1]? = _ from HBN.out) (by omega) (by decide)); have HBP2 := Lib.hid (oth_cell ho2 (show w1.drew.heap[w.heap.size]? = _ from HBP.out) (by omega) (by decide)); have hw2 : Below b w w2 := hwbd.trans hb2)
    all_goals (repeat (first | go_values | go_skip | go_guarded | go_step | go_upon))
    all_goals (refine (prow_any HI.out HO.out [] (by decide) 3 b _ _ (A ++ [33]) w2 P HBN2.out HBP2.out (by omega) (by omega) (HL.out.mono (fun y hy => hw2.block y (HP.out y hy)) (fun _ h => h)) HP.out hB2 (by have := HBK.out; rw [List.length_append, List.length_singleton]; omega)).mono ?_)
    all_goals (rintro e w3 ⟨rfl, A', h1, h2, h3, h4, h5⟩)
    all_goals (rw [List.length_append, List.length_singleton] at h2; dsimp only)
    all_goals (repeat (first | go_values | go_skip | go_guarded | go_step | go_upon))
    all_goals (first | go_end0 | go_ret | (refine bodyPost_ret (v := .tuple #[]) (by rfl) rfl ?_))
    all_goals (exact ⟨rfl, A', (Wr.put A [33]).trans h1, by omega, h3, hw2.trans h4, hod.trans (ho2.trans h5)⟩)
set_option maxRecDepth 100000 in
set_option maxHeartbeats 6400000 in
theorem expr_k8 {p : Int} {t : List UInt8} {c : BitVec 256} {a : Option Addr} {n cap : Nat} (b : Nat) (A : List UInt8) (w : World) (hp : Pg b b (Lib.byteCells A) w) (_ : A.length ≤ 99999999997000) {P : Nat → Prop} {l : List Tr} (_ : l.length = n) (IH : ∀ m ∈ l, ExprC m) (ho : ∀ m ∈ l, OkT m) (hl : RepL w P l (.slice a n cap)) (hP : ∀ x, P x → x < b) (hbk : A.length + 3000 * Tr.bulks l ≤ 99999999997000) :
    Calls Tryz.prog 25 #[.pointer (some ⟨b, 0, none⟩), .agg (trC 8 t c (.slice a n cap) p).toArray] w (PgP b A (rowTx [] 4 l ++ [63]) (3000 * Tr.bulks l + 1) w) := by
  have hlt := pg_lt hp
  have hm1 := cell_alloc_lt
  have HPg := Lib.hid hp
  have HWD := Lib.hid (fun (q : Bool) (hq : decide (8192 < A.length) = q) (w' : World) (h : Below w.heap.size w w') => wide_any b A q hq w' (pg_below hp h))
  have HI := Lib.hid IH
  have HO := Lib.hid ho
  have HL := Lib.hid hl
  have HP := Lib.hid hP
  have HBK := Lib.hid hbk
  clear IH ho hl hP hbk
  clear hp
  dsimp only [trC]
  by_cases hw : 8192 < A.length
  · have HQ := Lib.hid (HWD.out true (decide_eq_true hw))
    go_enter Tryz.func25, Tryz.ntmps25
    repeat (first | go_values | go_skip | go_guarded | go_step | go_upon)
    refine (HQ.out _ (by repeat (first | exact Below.refl _ _ | assumption | refine bal ?_ _ | refine bdr ?_ | refine bdrn ?_ _ | (refine bset ?_ (by first | exact Nat.le_refl _ | (simp; done) | (simp; omega) | omega) _) | refine bstep ?_ (by assumption)))).mono ?_
    rintro e w1 ⟨rfl, hb1⟩
    obtain ⟨hc1, hf1⟩ := bcell hb1
    have hz1 := hb1.size
    try simp at hz1
    dsimp only
    have hw1 : Below w.heap.size w w1 := (by repeat (first | exact Below.refl _ _ | assumption | refine bal ?_ _ | refine bdr ?_ | refine bdrn ?_ _ | (refine bset ?_ (by first | exact Nat.le_refl _ | (simp; done) | (simp; omega) | omega) _) | refine bstep ?_ (by assumption)))
    repeat (first | go_values | go_skip | go_guarded | go_step | go_upon)
    first | go_end0 | go_ret | (refine bodyPost_ret (v := .tuple #[]) (by rfl) rfl ?_)
    exact ⟨rfl, A, Wr.wide hw, by omega, pg_below HPg.out hw1, hw1.mono (Nat.le_of_lt hlt), oth_below b hw1⟩
  · have HQ := Lib.hid (HWD.out false (decide_eq_false hw))
    clear hw
    go_enter Tryz.func25, Tryz.ntmps25
    repeat (first | go_values | go_skip | go_guarded | go_step | go_upon)
    refine (HQ.out _ (by repeat (first | exact Below.refl _ _ | assumption | refine bal ?_ _ | refine bdr ?_ | refine bdrn ?_ _ | (refine bset ?_ (by first | exact Nat.le_refl _ | (simp; done) | (simp; omega) | omega) _) | refine bstep ?_ (by assumption)))).mono ?_
    rintro e w1 ⟨rfl, hb1⟩
    obtain ⟨hc1, hf1⟩ := bcell hb1
    have hz1 := hb1.size
    try simp at hz1
    dsimp only
    have hw1 : Below w.heap.size w w1 := (by repeat (first | exact Below.refl _ _ | assumption | refine bal ?_ _ | refine bdr ?_ | refine bdrn ?_ _ | (refine bset ?_ (by first | exact Nat.le_refl _ | (simp; done) | (simp; omega) | omega) _) | refine bstep ?_ (by assumption)))
    have hwb : Below b w w1 := hw1.mono (Nat.le_of_lt hlt)
    have hP1 := pg_below HPg.out hw1
    have ho1 := oth_below b hw1
    have hbp := (hb1.block w.heap.size (by simp; omega)).trans ((RowKit.Below.heap_alloc _ _ _ (by simp)).trans (heap_alloc_new w _))
    have hbn := (hb1.block (w.heap.size + 1) (by simp)).trans (allocs_new w _ _)
    have cP := (cells_at hbp).1 0
    have cN := (cells_at hbn).1
    simp only [List.getElem?_toArray, List.getElem?_cons_zero] at cP
    have qb1 := pg_lt hP1
    have hwbd : Below b w w1.drew := hwb.trans ((drew_below w1).mono (Nat.le_of_lt qb1))
    have hod : Oth b w w1.drew := ho1.trans (oth_below b (drew_below w1))
    have qP : w.heap.size < w1.heap.size := (Array.getElem?_eq_some_iff.1 hbp).1
    have qN : w.heap.size + 1 < w1.heap.size := (Array.getElem?_eq_some_iff.1 hbn).1
    have HBP := Lib.hid hbp
    have HBN := Lib.hid hbn
    clear hbp hbn HQ HWD
    repeat (first | go_values | go_skip | go_guarded | go_step | go_upon)
    refine (prow_any HI.out HO.out [] (by decide) 4 b _ _ A w1 P HBN.out HBP.out (by omega) (by omega) (HL.out.mono (fun y hy => hwb.block y (HP.out y hy)) (fun _ h => h)) HP.out hP1 (by have := HBK.out; omega)).mono ?_
    rintro e w2 ⟨rfl, A', h1, h2, h3, h4, h5⟩
    have hbp2 := oth_cell h5 HBP.out (by omega) (by decide)
    have hbn2 := oth_cell h5 HBN.out (by omega) (by decide)
    have cP2 := (cells_at hbp2).1 0
    have cN2 := (cells_at hbn2).1
    simp only [List.getElem?_toArray, List.getElem?_cons_zero] at cP2
    have hA' : A'.length ≤ 99999999997000 := by have := HBK.out; omega
    have qb2 := pg_lt h3
    clear cP cN
    dsimp only
    repeat (first | go_values | go_skip | go_guarded | go_step | go_upon)
    go_region_with (go_at_call 26; refine (pg_wb b A' 63 63 _ rfl (pg_below h3 (drew_below w2)) (by omega)).mono ?_; rintro e w3 ⟨rfl, hB3, hb3, ho3⟩; try dsimp only)
    all_goals (first | go_end0 | go_ret | (refine bodyPost_ret (v := .tuple #[]) (by rfl) rfl ?_))
    all_goals (exact ⟨rfl, A' ++ [63], h1.trans (Wr.put A' _), by rw [List.length_append, List.length_singleton]; omega, hB3, hwb.trans (h4.trans (((drew_below w2).mono (Nat.le_of_lt qb2)).trans hb3)), ho1.trans (h5.trans ((oth_below b (drew_below w2)).trans ho3))⟩)
end Go.Proofs.YteohgaheockepaaGreatDoor
namespace Go.Proofs.YteohgaheockepaaGreatDoor
open Go.RowKit Go.Sort

set_option maxRecDepth 100000 in
set_option maxHeartbeats 6400000 in
theorem expr_k9 {p : Int} {t : List UInt8} {c : BitVec 256} {a : Option Addr} {n cap : Nat} (b : Nat) (A : List UInt8) (w : World) (hp : Pg b b (Lib.byteCells A) w) (_ : A.length ≤ 99999999997000) {P : Nat → Prop} {l : List Tr} (_ : l.length = n) (IH : ∀ m ∈ l, ExprC m) (ho : ∀ m ∈ l, OkT m) (hl : RepL w P l (.slice a n cap)) (hP : ∀ x, P x → x < b) (hbk : A.length + 3000 * Tr.bulks l ≤ 99999999997000) :
    Calls Tryz.prog 25 #[.pointer (some ⟨b, 0, none⟩), .agg (trC 9 t c (.slice a n cap) p).toArray] w (PgP b A (rowTx [] 4 l ++ [42]) (3000 * Tr.bulks l + 1) w) := by
  have hlt := pg_lt hp
  have hm1 := cell_alloc_lt
  have HPg := Lib.hid hp
  have HWD := Lib.hid (fun (q : Bool) (hq : decide (8192 < A.length) = q) (w' : World) (h : Below w.heap.size w w') => wide_any b A q hq w' (pg_below hp h))
  have HI := Lib.hid IH
  have HO := Lib.hid ho
  have HL := Lib.hid hl
  have HP := Lib.hid hP
  have HBK := Lib.hid hbk
  clear IH ho hl hP hbk
  clear hp
  dsimp only [trC]
  by_cases hw : 8192 < A.length
  · have HQ := Lib.hid (HWD.out true (decide_eq_true hw))
    go_enter Tryz.func25, Tryz.ntmps25
    repeat (first | go_values | go_skip | go_guarded | go_step | go_upon)
    refine (HQ.out _ (by repeat (first | exact Below.refl _ _ | assumption | refine bal ?_ _ | refine bdr ?_ | refine bdrn ?_ _ | (refine bset ?_ (by first | exact Nat.le_refl _ | (simp; done) | (simp; omega) | omega) _) | refine bstep ?_ (by assumption)))).mono ?_
    rintro e w1 ⟨rfl, hb1⟩
    obtain ⟨hc1, hf1⟩ := bcell hb1
    have hz1 := hb1.size
    try simp at hz1
    dsimp only
    have hw1 : Below w.heap.size w w1 := (by repeat (first | exact Below.refl _ _ | assumption | refine bal ?_ _ | refine bdr ?_ | refine bdrn ?_ _ | (refine bset ?_ (by first | exact Nat.le_refl _ | (simp; done) | (simp; omega) | omega) _) | refine bstep ?_ (by assumption)))
    repeat (first | go_values | go_skip | go_guarded | go_step | go_upon)
    first | go_end0 | go_ret | (refine bodyPost_ret (v := .tuple #[]) (by rfl) rfl ?_)
    exact ⟨rfl, A, Wr.wide hw, by omega, pg_below HPg.out hw1, hw1.mono (Nat.le_of_lt hlt), oth_below b hw1⟩
  · have HQ := Lib.hid (HWD.out false (decide_eq_false hw))
    clear hw
    go_enter Tryz.func25, Tryz.ntmps25
    repeat (first | go_values | go_skip | go_guarded | go_step | go_upon)
    refine (HQ.out _ (by repeat (first | exact Below.refl _ _ | assumption | refine bal ?_ _ | refine bdr ?_ | refine bdrn ?_ _ | (refine bset ?_ (by first | exact Nat.le_refl _ | (simp; done) | (simp; omega) | omega) _) | refine bstep ?_ (by assumption)))).mono ?_
    rintro e w1 ⟨rfl, hb1⟩
    obtain ⟨hc1, hf1⟩ := bcell hb1
    have hz1 := hb1.size
    try simp at hz1
    dsimp only
    have hw1 : Below w.heap.size w w1 := (by repeat (first | exact Below.refl _ _ | assumption | refine bal ?_ _ | refine bdr ?_ | refine bdrn ?_ _ | (refine bset ?_ (by first | exact Nat.le_refl _ | (simp; done) | (simp; omega) | omega) _) | refine bstep ?_ (by assumption)))
    have hwb : Below b w w1 := hw1.mono (Nat.le_of_lt hlt)
    have hP1 := pg_below HPg.out hw1
    have ho1 := oth_below b hw1
    have hbp := (hb1.block w.heap.size (by simp; omega)).trans ((RowKit.Below.heap_alloc _ _ _ (by simp)).trans (heap_alloc_new w _))
    have hbn := (hb1.block (w.heap.size + 1) (by simp)).trans (allocs_new w _ _)
    have cP := (cells_at hbp).1 0
    have cN := (cells_at hbn).1
    simp only [List.getElem?_toArray, List.getElem?_cons_zero] at cP
    have qb1 := pg_lt hP1
    have hwbd : Below b w w1.drew := hwb.trans ((drew_below w1).mono (Nat.le_of_lt qb1))
    have hod : Oth b w w1.drew := ho1.trans (oth_below b (drew_below w1))
    have qP : w.heap.size < w1.heap.size := (Array.getElem?_eq_some_iff.1 hbp).1
    have qN : w.heap.size + 1 < w1.heap.size := (Array.getElem?_eq_some_iff.1 hbn).1
    have HBP := Lib.hid hbp
    have HBN := Lib.hid hbn
    clear hbp hbn HQ HWD
    repeat (first | go_values | go_skip | go_guarded | go_step | go_upon)
    refine (prow_any HI.out HO.out [] (by decide) 4 b _ _ A w1 P HBN.out HBP.out (by omega) (by omega) (HL.out.mono (fun y hy => hwb.block y (HP.out y hy)) (fun _ h => h)) HP.out hP1 (by have := HBK.out; omega)).mono ?_
    rintro e w2 ⟨rfl, A', h1, h2, h3, h4, h5⟩
    have hbp2 := oth_cell h5 HBP.out (by omega) (by decide)
    have hbn2 := oth_cell h5 HBN.out (by omega) (by decide)
    have cP2 := (cells_at hbp2).1 0
    have cN2 := (cells_at hbn2).1
    simp only [List.getElem?_toArray, List.getElem?_cons_zero] at cP2
    have hA' : A'.length ≤ 99999999997000 := by have := HBK.out; omega
    have qb2 := pg_lt h3
    clear cP cN
    dsimp only
    repeat (first | go_values | go_skip | go_guarded | go_step | go_upon)
    go_region_with (go_at_call 26; refine (pg_wb b A' 42 42 _ rfl (pg_below h3 (drew_below w2)) (by omega)).mono ?_; rintro e w3 ⟨rfl, hB3, hb3, ho3⟩; try dsimp only)
    all_goals (first | go_end0 | go_ret | (refine bodyPost_ret (v := .tuple #[]) (by rfl) rfl ?_))
    all_goals (exact ⟨rfl, A' ++ [42], h1.trans (Wr.put A' _), by rw [List.length_append, List.length_singleton]; omega, hB3, hwb.trans (h4.trans (((drew_below w2).mono (Nat.le_of_lt qb2)).trans hb3)), ho1.trans (h5.trans ((oth_below b (drew_below w2)).trans ho3))⟩)
set_option maxRecDepth 100000 in
set_option maxHeartbeats 6400000 in
theorem expr_k10 {p : Int} {t : List UInt8} {c : BitVec 256} {a : Option Addr} {n cap : Nat} (b : Nat) (A : List UInt8) (w : World) (hp : Pg b b (Lib.byteCells A) w) (_ : A.length ≤ 99999999997000) {P : Nat → Prop} {l : List Tr} (_ : l.length = n) (IH : ∀ m ∈ l, ExprC m) (ho : ∀ m ∈ l, OkT m) (hl : RepL w P l (.slice a n cap)) (hP : ∀ x, P x → x < b) (hbk : A.length + 3000 * Tr.bulks l ≤ 99999999997000) :
    Calls Tryz.prog 25 #[.pointer (some ⟨b, 0, none⟩), .agg (trC 10 t c (.slice a n cap) p).toArray] w (PgP b A (rowTx [] 4 l ++ [43]) (3000 * Tr.bulks l + 1) w) := by
  have hlt := pg_lt hp
  have hm1 := cell_alloc_lt
  have HPg := Lib.hid hp
  have HWD := Lib.hid (fun (q : Bool) (hq : decide (8192 < A.length) = q) (w' : World) (h : Below w.heap.size w w') => wide_any b A q hq w' (pg_below hp h))
  have HI := Lib.hid IH
  have HO := Lib.hid ho
  have HL := Lib.hid hl
  have HP := Lib.hid hP
  have HBK := Lib.hid hbk
  clear IH ho hl hP hbk
  clear hp
  dsimp only [trC]
  by_cases hw : 8192 < A.length
  · have HQ := Lib.hid (HWD.out true (decide_eq_true hw))
    go_enter Tryz.func25, Tryz.ntmps25
    repeat (first | go_values | go_skip | go_guarded | go_step | go_upon)
    refine (HQ.out _ (by repeat (first | exact Below.refl _ _ | assumption | refine bal ?_ _ | refine bdr ?_ | refine bdrn ?_ _ | (refine bset ?_ (by first | exact Nat.le_refl _ | (simp; done) | (simp; omega) | omega) _) | refine bstep ?_ (by assumption)))).mono ?_
    rintro e w1 ⟨rfl, hb1⟩
    obtain ⟨hc1, hf1⟩ := bcell hb1
    have hz1 := hb1.size
    try simp at hz1
    dsimp only
    have hw1 : Below w.heap.size w w1 := (by repeat (first | exact Below.refl _ _ | assumption | refine bal ?_ _ | refine bdr ?_ | refine bdrn ?_ _ | (refine bset ?_ (by first | exact Nat.le_refl _ | (simp; done) | (simp; omega) | omega) _) | refine bstep ?_ (by assumption)))
    repeat (first | go_values | go_skip | go_guarded | go_step | go_upon)
    first | go_end0 | go_ret | (refine bodyPost_ret (v := .tuple #[]) (by rfl) rfl ?_)
    exact ⟨rfl, A, Wr.wide hw, by omega, pg_below HPg.out hw1, hw1.mono (Nat.le_of_lt hlt), oth_below b hw1⟩
  · have HQ := Lib.hid (HWD.out false (decide_eq_false hw))
    clear hw
    go_enter Tryz.func25, Tryz.ntmps25
    repeat (first | go_values | go_skip | go_guarded | go_step | go_upon)
    refine (HQ.out _ (by repeat (first | exact Below.refl _ _ | assumption | refine bal ?_ _ | refine bdr ?_ | refine bdrn ?_ _ | (refine bset ?_ (by first | exact Nat.le_refl _ | (simp; done) | (simp; omega) | omega) _) | refine bstep ?_ (by assumption)))).mono ?_
    rintro e w1 ⟨rfl, hb1⟩
    obtain ⟨hc1, hf1⟩ := bcell hb1
    have hz1 := hb1.size
    try simp at hz1
    dsimp only
    have hw1 : Below w.heap.size w w1 := (by repeat (first | exact Below.refl _ _ | assumption | refine bal ?_ _ | refine bdr ?_ | refine bdrn ?_ _ | (refine bset ?_ (by first | exact Nat.le_refl _ | (simp; done) | (simp; omega) | omega) _) | refine bstep ?_ (by assumption)))
    have hwb : Below b w w1 := hw1.mono (Nat.le_of_lt hlt)
    have hP1 := pg_below HPg.out hw1
    have ho1 := oth_below b hw1
    have hbp := (hb1.block w.heap.size (by simp; omega)).trans ((RowKit.Below.heap_alloc _ _ _ (by simp)).trans (heap_alloc_new w _))
    have hbn := (hb1.block (w.heap.size + 1) (by simp)).trans (allocs_new w _ _)
    have cP := (cells_at hbp).1 0
    have cN := (cells_at hbn).1
    simp only [List.getElem?_toArray, List.getElem?_cons_zero] at cP
    have qb1 := pg_lt hP1
    have hwbd : Below b w w1.drew := hwb.trans ((drew_below w1).mono (Nat.le_of_lt qb1))
    have hod : Oth b w w1.drew := ho1.trans (oth_below b (drew_below w1))
    have qP : w.heap.size < w1.heap.size := (Array.getElem?_eq_some_iff.1 hbp).1
    have qN : w.heap.size + 1 < w1.heap.size := (Array.getElem?_eq_some_iff.1 hbn).1
    have HBP := Lib.hid hbp
    have HBN := Lib.hid hbn
    clear hbp hbn HQ HWD
    repeat (first | go_values | go_skip | go_guarded | go_step | go_upon)
    refine (prow_any HI.out HO.out [] (by decide) 4 b _ _ A w1 P HBN.out HBP.out (by omega) (by omega) (HL.out.mono (fun y hy => hwb.block y (HP.out y hy)) (fun _ h => h)) HP.out hP1 (by have := HBK.out; omega)).mono ?_
    rintro e w2 ⟨rfl, A', h1, h2, h3, h4, h5⟩
    have hbp2 := oth_cell h5 HBP.out (by omega) (by decide)
    have hbn2 := oth_cell h5 HBN.out (by omega) (by decide)
    have cP2 := (cells_at hbp2).1 0
    have cN2 := (cells_at hbn2).1
    simp only [List.getElem?_toArray, List.getElem?_cons_zero] at cP2
    have hA' : A'.length ≤ 99999999997000 := by have := HBK.out; omega
    have qb2 := pg_lt h3
    clear cP cN
    dsimp only
    repeat (first | go_values | go_skip | go_guarded | go_step | go_upon)
    go_region_with (go_at_call 26; refine (pg_wb b A' 43 43 _ rfl (pg_below h3 (drew_below w2)) (by omega)).mono ?_; rintro e w3 ⟨rfl, hB3, hb3, ho3⟩; try dsimp only)
    all_goals (first | go_end0 | go_ret | (refine bodyPost_ret (v := .tuple #[]) (by rfl) rfl ?_))
    all_goals (exact ⟨rfl, A' ++ [43], h1.trans (Wr.put A' _), by rw [List.length_append, List.length_singleton]; omega, hB3, hwb.trans (h4.trans (((drew_below w2).mono (Nat.le_of_lt qb2)).trans hb3)), ho1.trans (h5.trans ((oth_below b (drew_below w2)).trans ho3))⟩)
end Go.Proofs.YteohgaheockepaaGreatDoor
