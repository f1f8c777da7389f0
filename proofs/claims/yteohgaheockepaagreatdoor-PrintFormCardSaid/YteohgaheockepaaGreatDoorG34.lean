/- printer's expr writes the text of any tree that may be printed. | The walk of printer.node: whether a tree may be printed. | Two small facts for the walk of printer.node. | The walk of printer.node: by its kinds. -/
import Derived.Test.YteohgaheockepaaGreatDoorG33
import Derived.Test.YteohgaheockepaaGreatDoorG29
import Derived.Test.YteohgaheockepaaGreatDoorG3
import Derived.Test.YteohgaheockepaaGreatDoorG14
namespace Go.Proofs.YteohgaheockepaaGreatDoor
open Go.RowKit Go.Sort

theorem PgP.le {b m m' : Nat} {A t : List UInt8} {w : World} {e : Ending} {w' : World} (h : PgP b A t m w e w') (hm : m ≤ m') : PgP b A t m' w e w' := by
  obtain ⟨h1, A', h2, h3, h4⟩ := h
  exact ⟨h1, A', h2, by omega, h4⟩
theorem txs_rowT (sep : List Pc) (r : Nat) (l : List Tr) : txs (pcR sep r true l) = rowTx (txs sep) r l := by
  cases l with
  | nil => rw [pcR_nil]; rfl
  | cons n l => rw [txs_first]; rfl
theorem name_len {t : List UInt8} (h : isName t = true) : t.length ≤ 32 := (isName_spec h).2.1
theorem expr_any {n : Tr} (h : OkT n) : ExprC n := by
  induction h with
  | empty =>
    intro b A w P c hr hP hp hb _
    cases hr with
    | mk hl =>
      obtain ⟨a, cap, rfl, _⟩ := hl.slice
      rw [Tr.bulk] at hb ⊢
      exact (expr_k1 b A w hp (by simp only [Tr.bulks, List.length_nil] at hb; omega)).mono fun e w' h => h.le (by simp only [Tr.bulks, List.length_nil]; omega)
  | @lit t p ht =>
    intro b A w P c hr hP hp hb _
    cases hr with
    | mk hl =>
      obtain ⟨a, cap, rfl, _⟩ := hl.slice
      rw [Tr.bulk] at hb ⊢
      rw [show txT (.mk 2 t 0 [] p) = quoted t from by rw [txT, pcT]; simp [txs, Pc.tx]]
      exact (expr_k2 b A w hp (by simp only [Tr.bulks] at hb; omega) ht).mono fun e w' h => h.le (by simp only [Tr.bulks]; omega)
  | @set x p =>
    intro b A w P c hr hP hp hb _
    cases hr with
    | mk hl =>
      obtain ⟨a, cap, rfl, _⟩ := hl.slice
      rw [Tr.bulk] at hb ⊢
      rw [show txT (.mk 3 [] x [] p) = txt x from by rw [txT, pcT]; simp [txs, Pc.tx]]
      exact (expr_k3 b A w hp (by simp only [Tr.bulks, List.length_nil] at hb; omega)).mono fun e w' h => h.le (by simp only [Tr.bulks, List.length_nil]; omega)
  | any =>
    intro b A w P c hr hP hp hb _
    cases hr with
    | mk hl =>
      obtain ⟨a, cap, rfl, _⟩ := hl.slice
      rw [Tr.bulk] at hb ⊢
      exact (expr_k4 b A w hp (by simp only [Tr.bulks, List.length_nil] at hb; omega)).mono fun e w' h => h.le (by simp only [Tr.bulks, List.length_nil]; omega)
  | @ref t p ht =>
    intro b A w P c hr hP hp hb _
    cases hr with
    | mk hl =>
      obtain ⟨a, cap, rfl, _⟩ := hl.slice
      rw [Tr.bulk] at hb ⊢
      rw [show txT (.mk 5 t 0 [] p) = t from by rw [txT, pcT]; simp [txs, Pc.tx]]
      exact (expr_k5 b A w hp (by simp only [Tr.bulks] at hb; omega) (name_len ht)).mono fun e w' h => h.le (by simp only [Tr.bulks]; omega)
  | @seq l p hl1 ho ih =>
    intro b A w P c hr hP hp hb _
    cases hr with
    | mk hl =>
      obtain ⟨a, cap, rfl, _⟩ := hl.slice
      rw [Tr.bulk] at hb ⊢
      rw [show txT (.mk 6 [] 0 l p) = rowTx [32] 2 l from by rw [txT]; exact txs_rowT [.sp] 2 l]
      exact (expr_k6 b A w hp (by omega) rfl ih ho hl hP (by omega)).mono fun e w' h => h.le (by omega)
  | @alt l p hl1 ho ih =>
    intro b A w P c hr hP hp hb _
    cases hr with
    | mk hl =>
      obtain ⟨a, cap, rfl, _⟩ := hl.slice
      rw [Tr.bulk] at hb ⊢
      rw [show txT (.mk 7 [] 0 l p) = rowTx [32, 47, 32] 1 l from by rw [txT]; exact txs_rowT [.sp, .sg 47, .sp] 1 l]
      exact (expr_k7 b A w hp (by omega) rfl ih ho hl hP (by omega)).mono fun e w' h => h.le (by omega)
  | @post k p x hk ho ih =>
    intro b A w P c hr hP hp hb _
    have ih1 : ∀ m ∈ [x], ExprC m := fun m hm => by obtain rfl := List.mem_singleton.1 hm; exact ih
    have ho1 : ∀ m ∈ [x], OkT m := fun m hm => by obtain rfl := List.mem_singleton.1 hm; exact ho
    cases hr with
    | mk hl =>
      obtain ⟨a, cap, rfl, _⟩ := hl.slice
      rw [Tr.bulk] at hb ⊢
      have e : txT (.mk k [] 0 [x] p) = rowTx [] 4 [x] ++ [postB k] := by
        rw [txT, show pcT (.mk k [] 0 [x] p) = pcR [] 4 true [x] ++ [.sg (postB k)] by rcases hk with rfl | rfl | rfl <;> (rw [pcT]; rfl), txs_app, txs_rowT]
        rfl
      rw [e]
      rcases hk with rfl | rfl | rfl
      · exact (expr_k8 b A w hp (by omega) rfl ih1 ho1 hl hP (by omega)).mono fun e w' h => h.le (by omega)
      · exact (expr_k9 b A w hp (by omega) rfl ih1 ho1 hl hP (by omega)).mono fun e w' h => h.le (by omega)
      · exact (expr_k10 b A w hp (by omega) rfl ih1 ho1 hl hP (by omega)).mono fun e w' h => h.le (by omega)
  | @pre k p x hk ho ih =>
    intro b A w P c hr hP hp hb _
    have ih1 : ∀ m ∈ [x], ExprC m := fun m hm => by obtain rfl := List.mem_singleton.1 hm; exact ih
    have ho1 : ∀ m ∈ [x], OkT m := fun m hm => by obtain rfl := List.mem_singleton.1 hm; exact ho
    cases hr with
    | mk hl =>
      obtain ⟨a, cap, rfl, _⟩ := hl.slice
      rw [Tr.bulk] at hb ⊢
      have e : txT (.mk k [] 0 [x] p) = [preB k] ++ rowTx [] 3 [x] := by
        rw [txT, show pcT (.mk k [] 0 [x] p) = .sg (preB k) :: pcR [] 3 true [x] by rcases hk with rfl | rfl <;> (rw [pcT]; rfl)]
        show (preB k) :: txs (pcR [] 3 true [x]) = _
        rw [txs_rowT]
        rfl
      rw [e]
      rcases hk with rfl | rfl
      · exact (expr_k11 b A w hp (by omega) rfl ih1 ho1 hl hP (by omega)).mono fun e w' h => h.le (by omega)
      · exact (expr_k12 b A w hp (by omega) rfl ih1 ho1 hl hP (by omega)).mono fun e w' h => h.le (by omega)
end Go.Proofs.YteohgaheockepaaGreatDoor
namespace Go.Proofs.YteohgaheockepaaGreatDoor
open Go.RowKit Go.Sort

theorem cl_zero (c : BitVec 256) : (wd c 0 == 0 && (wd c 1 == 0 && (wd c 2 == 0 && wd c 3 == 0))) = (c == 0) := by
  have h := eq_wd c 0
  rw [wd_zero', wd_zero', wd_zero', wd_zero'] at h
  exact h
/-- The first of some trees that may not be printed; -1: none. -/
def badI : Nat → List Tr → Int
  | _, [] => -1
  | i, n :: l => if okT n = true then badI (i + 1) l else (i : Int)
theorem badI_sign : ∀ (l : List Tr) (i : Nat), decide (0 ≤ badI i l) = !okL l := by
  intro l
  induction l with
  | nil => intro i; rfl
  | cons n l ih =>
    intro i
    rw [badI, okL]
    split
    · next h => rw [ih, h]; rfl
    · next h =>
      have : okT n = false := by simpa using h
      rw [this]
      simp
/-- The contract of node at a tree. -/
def NodeC (n : Tr) : Prop := ∀ (w : World) (P : Nat → Prop) (c : List Value), RepA w P n c → (∀ b, P b → b < w.heap.size) → n.bulk ≤ 1000000000 → Calls Tryz.prog 48 #[.agg c.toArray] w (Ans (.bool (okT n)) w)
theorem node1_any {n : Tr} (h : NodeC n) (q : Bool) (hq : okT n = !q) (w : World) (P : Nat → Prop) (c : List Value) (hr : RepA w P n c) (hP : ∀ b, P b → b < w.heap.size) (hb : n.bulk ≤ 1000000000) : Calls Tryz.prog 77 #[.agg c.toArray] w (Ans (.bool q) w) := by
  obtain ⟨k, t, x, v, l, p, rfl, rfl, hl⟩ := hr.form
  have HC := Lib.hid (h (w.alloc (.cells (trC k t x v p).toArray 42)) P _ (hr.mono (fun b hb => RowKit.Below.heap_alloc _ _ _ (hP b hb)) (fun _ h => h)) (fun b hb => by have := hP b hb; simp; omega) hb)
  have hm1 := cell_alloc_lt
  obtain ⟨sa, cap, rfl, _⟩ := hl.slice
  rw [hq] at HC
  clear h hr hP hb hl hq
  dsimp only [trC] at HC ⊢
  cases q with
  | true =>
    go_enter Tryz.func77, Tryz.ntmps77
    repeat (first | go_values | go_skip | go_guarded | go_step | go_upon)
    refine (HC.out).mono ?_
    rintro e w1 ⟨rfl, hb1⟩
    obtain ⟨hc1, hf1⟩ := bcell hb1
    have hz1 := hb1.size
    try simp at hz1
    dsimp only
    repeat (first | go_values | go_skip | go_guarded | go_step | go_upon)
    go_ret
    exact ⟨rfl, (by repeat (first | exact Below.refl _ _ | assumption | refine bal ?_ _ | refine bdr ?_ | refine bdrn ?_ _ | (refine bset ?_ (by first | exact Nat.le_refl _ | (simp; done) | (simp; omega) | omega) _) | refine bstep ?_ (by assumption)))⟩
  | false =>
    go_enter Tryz.func77, Tryz.ntmps77
    repeat (first | go_values | go_skip | go_guarded | go_step | go_upon)
    refine (HC.out).mono ?_
    rintro e w1 ⟨rfl, hb1⟩
    obtain ⟨hc1, hf1⟩ := bcell hb1
    have hz1 := hb1.size
    try simp at hz1
    dsimp only
    repeat (first | go_values | go_skip | go_guarded | go_step | go_upon)
    go_ret
    exact ⟨rfl, (by repeat (first | exact Below.refl _ _ | assumption | refine bal ?_ _ | refine bdr ?_ | refine bdrn ?_ _ | (refine bset ?_ (by first | exact Nat.le_refl _ | (simp; done) | (simp; omega) | omega) _) | refine bstep ?_ (by assumption)))⟩
theorem bulk_mem {l : List Tr} {n : Tr} (h : n ∈ l) : n.bulk ≤ Tr.bulks l := by
  induction l with
  | nil => cases h
  | cons m l ih =>
    rw [Tr.bulks]
    rcases List.mem_cons.1 h with rfl | h
    · omega
    · have := ih h; omega
set_option maxRecDepth 100000 in
set_option maxHeartbeats 3200000 in
theorem index_node {l : List Tr} {v : Value} {P : Nat → Prop} (w : World) (hl : RepL w P l v) (hP : ∀ b, P b → b < w.heap.size) (hb : Tr.bulks l ≤ 1000000000) (IH : ∀ m ∈ l, NodeC m) : Calls Tryz.prog 104 #[v, .func (.func 77) #[] #[]] w (Ans (.int .i64 (badI 0 l)) w) := by
  obtain ⟨n, hn⟩ : ∃ n, n = l.length := ⟨_, rfl⟩
  obtain ⟨a, cap, rfl, hcap, hmax⟩ := hl.slice
  have HL := Lib.hid hl
  have HP := Lib.hid hP
  have HI := Lib.hid IH
  have HB := Lib.hid hb
  have hm1 := cell_alloc_lt
  rw [← hn] at hcap hmax ⊢
  have HN := Lib.hid hn
  unfold maxLen at hmax
  clear hl hP IH hb hn
  go_enter Tryz.func104, Tryz.ntmps104
  repeat (first | go_values | go_skip | go_guarded | go_step | go_upon)
  go_loopw [8] (fun tt wr => ∃ j : Nat, tt = .int .i64 (j : Int) ∧ j ≤ n ∧ Hid (badI 0 l = badI j (l.drop j)) ∧ Below w.heap.size w wr) (fun tt _ => n - (intOf tt).toNat)
  case atStart => exact ⟨0, rfl, Nat.zero_le _, Lib.hid rfl, Below.refl _ _⟩
  case round =>
    obtain ⟨j, rfl, hj, hbad, hbr⟩ := hrel
    by_cases hlt : j < n
    · have hlt2 : j < l.length := by rw [← HN.out]; exact hlt
      obtain ⟨y, hy⟩ : ∃ y, l[j]? = some y := ⟨l[j], List.getElem?_eq_getElem hlt2⟩
      have hmem := List.mem_of_getElem? hy
      have hdrop : l.drop j = y :: l.drop (j + 1) := by
        rw [List.drop_eq_getElem_cons hlt2]
        congr 1
        exact (List.getElem?_eq_some_iff.1 hy).2
      have hbd := bulk_mem hmem
      have h1 := hbad.out
      rw [hdrop, badI] at h1
      rcases HL.out.parts with ⟨e, _⟩ | ⟨e, _⟩ | ⟨g, o, cap', e, hg, _, _, _, hr⟩
      · rw [e] at hlt2; simp at hlt2
      · rw [e] at hlt2; simp at hlt2
      · obtain rfl : a = some ⟨g, o, none⟩ := by injection e
        have HW := Lib.hid hbr
        obtain ⟨k1, t1, x1, sa, sn, sc, p1, l1, _, q0, _, a0, a1, a2, a3, a4, a5, a6, a7⟩ := (hr.mono (w' := wr) (P' := P) (fun b hb => HW.out.block b (HP.out b hb)) (fun _ h => h) hg).get hy
        have HC := Lib.hid (fun q hq => node1_any (HI.out y hmem) q hq wr P _ q0 (fun b hb => Nat.lt_of_lt_of_le (HP.out b hb) hbr.size) (by have := HB.out; omega))
        have d1 : decide ((j : Int) < n) = true := by simpa using hlt
        have k5 : IntKind.i64.wrap ((j : Int) + 1) = (j : Int) + 1 := by rw [IntKind.wrap_i64]; omega
        obtain ⟨r, hr2⟩ : ∃ r, okT y = r := ⟨_, rfl⟩
        rw [hr2] at h1
        have HR := Lib.hid hr2
        have H1 := Lib.hid h1
        clear h1 hdrop hy hmem q0 hr e hbad hr2
        dsimp only [trC] at HC
        cases r with
        | true =>
          have H2 := Lib.hid (show badI 0 l = badI (j + 1) (l.drop (j + 1)) from H1.out)
          clear H1
          repeat (first | go_values | go_skip | go_guarded | go_step | go_upon)
          refine (HC.out false HR.out).mono ?_
          rintro e w1 ⟨rfl, hb1⟩
          dsimp only
          repeat (first | go_values | go_skip | go_guarded | go_step | go_upon)
          exact ⟨⟨j + 1, by go_num, by omega, H2, hbr.trans (hb1.mono hbr.size)⟩, by simp [intOf]; omega⟩
        | false =>
          have H2 := Lib.hid (show badI 0 l = (j : Int) from H1.out)
          clear H1
          repeat (first | go_values | go_skip | go_guarded | go_step | go_upon)
          refine (HC.out true HR.out).mono ?_
          rintro e w1 ⟨rfl, hb1⟩
          dsimp only
          repeat (first | go_values | go_skip | go_guarded | go_step | go_upon)
          go_ret
          exact ⟨by rw [H2.out]; rfl, hbr.trans (hb1.mono hbr.size)⟩
    · have d1 : decide (j < n) = false := by simpa using hlt
      have hjn : j = l.length := by rw [← HN.out]; omega
      have H2 := Lib.hid (show badI 0 l = -1 by rw [hbad.out, hjn, List.drop_length]; rfl)
      clear hlt hjn hbad
      repeat (first | go_values | go_skip | go_guarded | go_step | go_upon)
      go_ret
      exact ⟨by rw [H2.out]; rfl, hbr⟩
theorem contains_node {l : List Tr} {v : Value} {P : Nat → Prop} (w : World) (hl : RepL w P l v) (hP : ∀ b, P b → b < w.heap.size) (hb : Tr.bulks l ≤ 1000000000) (IH : ∀ m ∈ l, NodeC m) : Calls Tryz.prog 76 #[v, .func (.func 77) #[] #[]] w (Ans (.bool (!okL l)) w) := by
  have HC := Lib.hid (fun (w' : World) (h : Below w.heap.size w w') => index_node w' (hl.mono (fun b hb => h.block b (hP b hb)) (fun _ h => h)) (fun b hb => Nat.lt_of_lt_of_le (hP b hb) h.size) hb IH)
  have hs := badI_sign l 0
  obtain ⟨i, hi⟩ : ∃ i, badI 0 l = i := ⟨_, rfl⟩
  rw [hi] at HC hs
  rw [← hs]
  obtain ⟨a, cap, rfl, hcap, hmax⟩ := hl.slice
  generalize l.length = n at *
  clear hl hP hb IH hi hs
  go_enter Tryz.func76, Tryz.ntmps76
  repeat (first | go_values | go_skip | go_guarded | go_step | go_upon)
  refine (HC.out _ (by repeat (first | exact Below.refl _ _ | assumption | refine bal ?_ _ | refine bdr ?_ | refine bdrn ?_ _ | (refine bset ?_ (by first | exact Nat.le_refl _ | (simp; done) | (simp; omega) | omega) _) | refine bstep ?_ (by assumption)))).mono ?_
  rintro e w1 ⟨rfl, hb1⟩
  obtain ⟨hc1, hf1⟩ := bcell hb1
  have hz1 := hb1.size
  try simp at hz1
  dsimp only
  repeat (first | go_values | go_skip | go_guarded | go_step | go_upon)
  go_ret
  exact ⟨rfl, (by repeat (first | exact Below.refl _ _ | assumption | refine bal ?_ _ | refine bdr ?_ | refine bdrn ?_ _ | (refine bset ?_ (by first | exact Nat.le_refl _ | (simp; done) | (simp; omega) | omega) _) | refine bstep ?_ (by assumption)))⟩
end Go.Proofs.YteohgaheockepaaGreatDoor
namespace Go.Proofs.YteohgaheockepaaGreatDoor
open Go.RowKit Go.Sort

theorem str_empty (t : List UInt8) : (mkS t).toList.isEmpty = t.isEmpty := by
  rw [Go.ByteArray.toList_eq]
  simp [mkS]
theorem mkS_bl (t : List UInt8) : bl (mkS t) = t := by simp [bl, mkS]
end Go.Proofs.YteohgaheockepaaGreatDoor
namespace Go.Proofs.YteohgaheockepaaGreatDoor
open Go.RowKit Go.Sort

set_option maxRecDepth 100000 in
set_option maxHeartbeats 6400000 in
theorem node_k3 {p : Int} {t : List UInt8} {c : BitVec 256} {a : Option Addr} {n cap : Nat} {q : Bool} (w : World) (_ : t.length ≤ 1000000000) (_ : n ≤ 140737488355328)
    (HC : ∀ q2, q = !q2 → ∀ w', Below w.heap.size w w' → Calls Tryz.prog 76 #[.slice a n cap, .func (.func 77) #[] #[]] w' (Ans (.bool q2) w')) : Calls Tryz.prog 48 #[.agg (trC 3 t c (.slice a n cap) p).toArray] w (Ans (.bool (okH 3 t c n && q)) w) := by
  have f8 := guard_cl
  have f9 := equal_cl4
  have hm1 := cell_alloc_lt
  have H := Lib.hid HC
  clear HC
  dsimp only [trC]
  have hse := str_empty t
  have hsz : (mkS t).size = t.length := mkS_size t
  by_cases htx : t = []
  · have se : t.isEmpty = true := by rw [htx]; rfl
    rw [se] at hse
    by_cases hn : n = 0
    · have e0 : ((n : Int) == 0) = true := by rw [hn]; rfl
      cases q with
      | true =>
        have hv : (okH 3 t c n && true) = true := by simp [okH, htx, hn]
        rw [hv]
        clear hv
        try clear hn
        try clear htx
        try clear se
        have HQ := Lib.hid (H.out false rfl)
        clear H
        go_enter Tryz.func48, Tryz.ntmps48
        repeat (first | go_values | go_skip | go_guarded | go_step | go_upon)
        refine (HQ.out _ (by repeat (first | exact Below.refl _ _ | assumption | refine bal ?_ _ | refine bdr ?_ | refine bdrn ?_ _ | (refine bset ?_ (by first | exact Nat.le_refl _ | (simp; done) | (simp; omega) | omega) _) | refine bstep ?_ (by assumption)))).mono ?_
        rintro e w1 ⟨rfl, hb1⟩
        obtain ⟨hc1, hf1⟩ := bcell hb1
        have hz1 := hb1.size
        try simp at hz1
        dsimp only
        repeat (first | go_values | go_skip | go_guarded | go_step | go_upon)
        go_ret
        exact ⟨rfl, (by repeat (first | exact Below.refl _ _ | assumption | refine bal ?_ _ | refine bdr ?_ | refine bdrn ?_ _ | (refine bset ?_ (by first | exact Nat.le_refl _ | (simp; done) | (simp; omega) | omega) _) | refine bstep ?_ (by assumption)))⟩
      | false =>
        have hv : (okH 3 t c n && false) = false := by simp [okH, htx, hn]
        rw [hv]
        clear hv
        try clear hn
        try clear htx
        try clear se
        have HQ := Lib.hid (H.out true rfl)
        clear H
        go_enter Tryz.func48, Tryz.ntmps48
        repeat (first | go_values | go_skip | go_guarded | go_step | go_upon)
        refine (HQ.out _ (by repeat (first | exact Below.refl _ _ | assumption | refine bal ?_ _ | refine bdr ?_ | refine bdrn ?_ _ | (refine bset ?_ (by first | exact Nat.le_refl _ | (simp; done) | (simp; omega) | omega) _) | refine bstep ?_ (by assumption)))).mono ?_
        rintro e w1 ⟨rfl, hb1⟩
        obtain ⟨hc1, hf1⟩ := bcell hb1
        have hz1 := hb1.size
        try simp at hz1
        dsimp only
        repeat (first | go_values | go_skip | go_guarded | go_step | go_upon)
        go_ret
        exact ⟨rfl, (by repeat (first | exact Below.refl _ _ | assumption | refine bal ?_ _ | refine bdr ?_ | refine bdrn ?_ _ | (refine bset ?_ (by first | exact Nat.le_refl _ | (simp; done) | (simp; omega) | omega) _) | refine bstep ?_ (by assumption)))⟩
    · have e0 : ((n : Int) == 0) = false := by simpa using hn
      have hv : (okH 3 t c n && q) = false := by simp [okH, htx, hn]
      rw [hv]
      clear hv
      try clear hn
      try clear htx
      try clear se
      go_enter Tryz.func48, Tryz.ntmps48
      repeat (first | go_values | go_skip | go_guarded | go_step | go_upon)
      go_ret
      exact ⟨rfl, (by repeat (first | exact Below.refl _ _ | assumption | refine bal ?_ _ | refine bdr ?_ | refine bdrn ?_ _ | (refine bset ?_ (by first | exact Nat.le_refl _ | (simp; done) | (simp; omega) | omega) _) | refine bstep ?_ (by assumption)))⟩
  · have se : t.isEmpty = false := by simpa using htx
    rw [se] at hse
    have hv : (okH 3 t c n && q) = false := by simp [okH, se]
    rw [hv]
    clear hv
    try clear hn
    try clear htx
    try clear se
    go_enter Tryz.func48, Tryz.ntmps48
    repeat (first | go_values | go_skip | go_guarded | go_step | go_upon)
    go_ret
    exact ⟨rfl, (by repeat (first | exact Below.refl _ _ | assumption | refine bal ?_ _ | refine bdr ?_ | refine bdrn ?_ _ | (refine bset ?_ (by first | exact Nat.le_refl _ | (simp; done) | (simp; omega) | omega) _) | refine bstep ?_ (by assumption)))⟩
set_option maxRecDepth 100000 in
set_option maxHeartbeats 6400000 in
theorem node_k1 {p : Int} {t : List UInt8} {c : BitVec 256} {a : Option Addr} {n cap : Nat} {q : Bool} (hc : c = 0) (w : World) (_ : t.length ≤ 1000000000) (_ : n ≤ 140737488355328)
    (HC : ∀ q2, q = !q2 → ∀ w', Below w.heap.size w w' → Calls Tryz.prog 76 #[.slice a n cap, .func (.func 77) #[] #[]] w' (Ans (.bool q2) w')) : Calls Tryz.prog 48 #[.agg (trC 1 t c (.slice a n cap) p).toArray] w (Ans (.bool (okH 1 t c n && q)) w) := by
  have f8 := guard_cl
  have f9 := equal_cl4
  have hm1 := cell_alloc_lt
  have H := Lib.hid HC
  clear HC
  dsimp only [trC]
  have hse := str_empty t
  have hsz : (mkS t).size = t.length := mkS_size t
  have hz := cl_zero c
  have hc0 : (c == 0) = true := by rw [hc]; rfl
  rw [hc0] at hz
  have hw0 : wd c 0 = 0 := by rw [hc]; exact wd_zero' 0
  have hw1 : wd c 1 = 0 := by rw [hc]; exact wd_zero' 1
  have hw2 : wd c 2 = 0 := by rw [hc]; exact wd_zero' 2
  have hw3 : wd c 3 = 0 := by rw [hc]; exact wd_zero' 3
  have HZ := Lib.hid (show c = 0#256 from hc)
  clear hc
  by_cases htx : t = []
  · have se : t.isEmpty = true := by rw [htx]; rfl
    rw [se] at hse
    by_cases hn : n = 0
    · have e0 : ((n : Int) == 0) = true := by rw [hn]; rfl
      cases q with
      | true =>
        have hv : (okH 1 t c n && true) = true := by simp [okH, HZ.out, htx, hn]
        rw [hv]
        clear hv
        try clear hn
        try clear htx
        try clear se
        have HQ := Lib.hid (H.out false rfl)
        clear H
        go_enter Tryz.func48, Tryz.ntmps48
        repeat (first | go_values | go_skip | go_guarded | go_step | go_upon)
        refine (HQ.out _ (by repeat (first | exact Below.refl _ _ | assumption | refine bal ?_ _ | refine bdr ?_ | refine bdrn ?_ _ | (refine bset ?_ (by first | exact Nat.le_refl _ | (simp; done) | (simp; omega) | omega) _) | refine bstep ?_ (by assumption)))).mono ?_
        rintro e w1 ⟨rfl, hb1⟩
        obtain ⟨hc1, hf1⟩ := bcell hb1
        have hz1 := hb1.size
        try simp at hz1
        dsimp only
        repeat (first | go_values | go_skip | go_guarded | go_step | go_upon)
        go_ret
        exact ⟨rfl, (by repeat (first | exact Below.refl _ _ | assumption | refine bal ?_ _ | refine bdr ?_ | refine bdrn ?_ _ | (refine bset ?_ (by first | exact Nat.le_refl _ | (simp; done) | (simp; omega) | omega) _) | refine bstep ?_ (by assumption)))⟩
      | false =>
        have hv : (okH 1 t c n && false) = false := by simp [okH, HZ.out, htx, hn]
        rw [hv]
        clear hv
        try clear hn
        try clear htx
        try clear se
        have HQ := Lib.hid (H.out true rfl)
        clear H
        go_enter Tryz.func48, Tryz.ntmps48
        repeat (first | go_values | go_skip | go_guarded | go_step | go_upon)
        refine (HQ.out _ (by repeat (first | exact Below.refl _ _ | assumption | refine bal ?_ _ | refine bdr ?_ | refine bdrn ?_ _ | (refine bset ?_ (by first | exact Nat.le_refl _ | (simp; done) | (simp; omega) | omega) _) | refine bstep ?_ (by assumption)))).mono ?_
        rintro e w1 ⟨rfl, hb1⟩
        obtain ⟨hc1, hf1⟩ := bcell hb1
        have hz1 := hb1.size
        try simp at hz1
        dsimp only
        repeat (first | go_values | go_skip | go_guarded | go_step | go_upon)
        go_ret
        exact ⟨rfl, (by repeat (first | exact Below.refl _ _ | assumption | refine bal ?_ _ | refine bdr ?_ | refine bdrn ?_ _ | (refine bset ?_ (by first | exact Nat.le_refl _ | (simp; done) | (simp; omega) | omega) _) | refine bstep ?_ (by assumption)))⟩
    · have e0 : ((n : Int) == 0) = false := by simpa using hn
      have hv : (okH 1 t c n && q) = false := by simp [okH, HZ.out, htx, hn]
      rw [hv]
      clear hv
      try clear hn
      try clear htx
      try clear se
      go_enter Tryz.func48, Tryz.ntmps48
      repeat (first | go_values | go_skip | go_guarded | go_step | go_upon)
      go_ret
      exact ⟨rfl, (by repeat (first | exact Below.refl _ _ | assumption | refine bal ?_ _ | refine bdr ?_ | refine bdrn ?_ _ | (refine bset ?_ (by first | exact Nat.le_refl _ | (simp; done) | (simp; omega) | omega) _) | refine bstep ?_ (by assumption)))⟩
  · have se : t.isEmpty = false := by simpa using htx
    rw [se] at hse
    have hv : (okH 1 t c n && q) = false := by simp [okH, HZ.out, se]
    rw [hv]
    clear hv
    try clear hn
    try clear htx
    try clear se
    go_enter Tryz.func48, Tryz.ntmps48
    repeat (first | go_values | go_skip | go_guarded | go_step | go_upon)
    go_ret
    exact ⟨rfl, (by repeat (first | exact Below.refl _ _ | assumption | refine bal ?_ _ | refine bdr ?_ | refine bdrn ?_ _ | (refine bset ?_ (by first | exact Nat.le_refl _ | (simp; done) | (simp; omega) | omega) _) | refine bstep ?_ (by assumption)))⟩
set_option maxRecDepth 100000 in
set_option maxHeartbeats 6400000 in
theorem node_k2 {p : Int} {t : List UInt8} {c : BitVec 256} {a : Option Addr} {n cap : Nat} {q : Bool} (hc : c = 0) (w : World) (ht : t.length ≤ 1000000000) (_ : n ≤ 140737488355328)
    (HC : ∀ q2, q = !q2 → ∀ w', Below w.heap.size w w' → Calls Tryz.prog 76 #[.slice a n cap, .func (.func 77) #[] #[]] w' (Ans (.bool q2) w')) : Calls Tryz.prog 48 #[.agg (trC 2 t c (.slice a n cap) p).toArray] w (Ans (.bool (okH 2 t c n && q)) w) := by
  have f8 := guard_cl
  have f9 := equal_cl4
  have hm1 := cell_alloc_lt
  have H := Lib.hid HC
  clear HC
  dsimp only [trC]
  have hse := str_empty t
  have hsz : (mkS t).size = t.length := mkS_size t
  have hz := cl_zero c
  have hc0 : (c == 0) = true := by rw [hc]; rfl
  rw [hc0] at hz
  have hw0 : wd c 0 = 0 := by rw [hc]; exact wd_zero' 0
  have hw1 : wd c 1 = 0 := by rw [hc]; exact wd_zero' 1
  have hw2 : wd c 2 = 0 := by rw [hc]; exact wd_zero' 2
  have hw3 : wd c 3 = 0 := by rw [hc]; exact wd_zero' 3
  have HZ := Lib.hid (show c = 0#256 from hc)
  clear hc
  by_cases hlen : t.length ≤ 255
  · have e1 : decide ((t.length : Int) ≤ 255) = true := by simp; omega
    by_cases hn : n = 0
    · have e0 : ((n : Int) == 0) = true := by rw [hn]; rfl
      cases q with
      | true =>
        have hv : (okH 2 t c n && true) = true := by simp [okH, HZ.out, hlen, hn]
        rw [hv]
        clear hv
        try clear hn
        try clear htx
        try clear se
        have HQ := Lib.hid (H.out false rfl)
        clear H
        go_enter Tryz.func48, Tryz.ntmps48
        repeat (first | go_values | go_skip | go_guarded | go_step | go_upon)
        refine (HQ.out _ (by repeat (first | exact Below.refl _ _ | assumption | refine bal ?_ _ | refine bdr ?_ | refine bdrn ?_ _ | (refine bset ?_ (by first | exact Nat.le_refl _ | (simp; done) | (simp; omega) | omega) _) | refine bstep ?_ (by assumption)))).mono ?_
        rintro e w1 ⟨rfl, hb1⟩
        obtain ⟨hc1, hf1⟩ := bcell hb1
        have hz1 := hb1.size
        try simp at hz1
        dsimp only
        repeat (first | go_values | go_skip | go_guarded | go_step | go_upon)
        go_ret
        exact ⟨rfl, (by repeat (first | exact Below.refl _ _ | assumption | refine bal ?_ _ | refine bdr ?_ | refine bdrn ?_ _ | (refine bset ?_ (by first | exact Nat.le_refl _ | (simp; done) | (simp; omega) | omega) _) | refine bstep ?_ (by assumption)))⟩
      | false =>
        have hv : (okH 2 t c n && false) = false := by simp [okH, HZ.out, hlen, hn]
        rw [hv]
        clear hv
        try clear hn
        try clear htx
        try clear se
        have HQ := Lib.hid (H.out true rfl)
        clear H
        go_enter Tryz.func48, Tryz.ntmps48
        repeat (first | go_values | go_skip | go_guarded | go_step | go_upon)
        refine (HQ.out _ (by repeat (first | exact Below.refl _ _ | assumption | refine bal ?_ _ | refine bdr ?_ | refine bdrn ?_ _ | (refine bset ?_ (by first | exact Nat.le_refl _ | (simp; done) | (simp; omega) | omega) _) | refine bstep ?_ (by assumption)))).mono ?_
        rintro e w1 ⟨rfl, hb1⟩
        obtain ⟨hc1, hf1⟩ := bcell hb1
        have hz1 := hb1.size
        try simp at hz1
        dsimp only
        repeat (first | go_values | go_skip | go_guarded | go_step | go_upon)
        go_ret
        exact ⟨rfl, (by repeat (first | exact Below.refl _ _ | assumption | refine bal ?_ _ | refine bdr ?_ | refine bdrn ?_ _ | (refine bset ?_ (by first | exact Nat.le_refl _ | (simp; done) | (simp; omega) | omega) _) | refine bstep ?_ (by assumption)))⟩
    · have e0 : ((n : Int) == 0) = false := by simpa using hn
      have hv : (okH 2 t c n && q) = false := by simp [okH, HZ.out, hlen, hn]
      rw [hv]
      clear hv
      try clear hn
      try clear htx
      try clear se
      go_enter Tryz.func48, Tryz.ntmps48
      repeat (first | go_values | go_skip | go_guarded | go_step | go_upon)
      go_ret
      exact ⟨rfl, (by repeat (first | exact Below.refl _ _ | assumption | refine bal ?_ _ | refine bdr ?_ | refine bdrn ?_ _ | (refine bset ?_ (by first | exact Nat.le_refl _ | (simp; done) | (simp; omega) | omega) _) | refine bstep ?_ (by assumption)))⟩
  · have e1 : decide ((t.length : Int) ≤ 255) = false := by simp; omega
    have hv : (okH 2 t c n && q) = false := by simp [okH, HZ.out, hlen]
    rw [hv]
    clear hv
    try clear hn
    try clear htx
    try clear se
    go_enter Tryz.func48, Tryz.ntmps48
    repeat (first | go_values | go_skip | go_guarded | go_step | go_upon)
    go_ret
    exact ⟨rfl, (by repeat (first | exact Below.refl _ _ | assumption | refine bal ?_ _ | refine bdr ?_ | refine bdrn ?_ _ | (refine bset ?_ (by first | exact Nat.le_refl _ | (simp; done) | (simp; omega) | omega) _) | refine bstep ?_ (by assumption)))⟩
set_option maxRecDepth 100000 in
set_option maxHeartbeats 6400000 in
theorem node_k5 {p : Int} {t : List UInt8} {c : BitVec 256} {a : Option Addr} {n cap : Nat} {q : Bool} (hc : c = 0) (w : World) (ht : t.length ≤ 1000000000) (_ : n ≤ 140737488355328)
    (HC : ∀ q2, q = !q2 → ∀ w', Below w.heap.size w w' → Calls Tryz.prog 76 #[.slice a n cap, .func (.func 77) #[] #[]] w' (Ans (.bool q2) w')) : Calls Tryz.prog 48 #[.agg (trC 5 t c (.slice a n cap) p).toArray] w (Ans (.bool (okH 5 t c n && q)) w) := by
  have f8 := guard_cl
  have f9 := equal_cl4
  have hm1 := cell_alloc_lt
  have H := Lib.hid HC
  clear HC
  dsimp only [trC]
  have hse := str_empty t
  have hsz : (mkS t).size = t.length := mkS_size t
  have hz := cl_zero c
  have hc0 : (c == 0) = true := by rw [hc]; rfl
  rw [hc0] at hz
  have hw0 : wd c 0 = 0 := by rw [hc]; exact wd_zero' 0
  have hw1 : wd c 1 = 0 := by rw [hc]; exact wd_zero' 1
  have hw2 : wd c 2 = 0 := by rw [hc]; exact wd_zero' 2
  have hw3 : wd c 3 = 0 := by rw [hc]; exact wd_zero' 3
  have HZ := Lib.hid (show c = 0#256 from hc)
  clear hc
  have HN := Lib.hid (fun w => lName_any (mkS t) w (by rw [hsz]; omega))
  rw [mkS_bl] at HN
  by_cases hnm : isName t = true
  · rw [hnm] at HN
    by_cases hn : n = 0
    · have e0 : ((n : Int) == 0) = true := by rw [hn]; rfl
      cases q with
      | true =>
        have hv : (okH 5 t c n && true) = true := by simp [okH, HZ.out, hnm, hn]
        rw [hv]
        clear hv
        try clear hn
        try clear htx
        try clear se
        have HQ := Lib.hid (H.out false rfl)
        clear H
        go_enter Tryz.func48, Tryz.ntmps48
        repeat (first | go_values | go_skip | go_guarded | go_step | go_upon)
        refine (HN.out _).mono ?_
        rintro e w5 ⟨rfl, hb5⟩
        obtain ⟨hc5, hf5⟩ := bcell hb5
        have hz5 := hb5.size
        try simp at hz5
        dsimp only
        repeat (first | go_values | go_skip | go_guarded | go_step | go_upon)
        refine (HQ.out _ (by repeat (first | exact Below.refl _ _ | assumption | refine bal ?_ _ | refine bdr ?_ | refine bdrn ?_ _ | (refine bset ?_ (by first | exact Nat.le_refl _ | (simp; done) | (simp; omega) | omega) _) | refine bstep ?_ (by assumption)))).mono ?_
        rintro e w1 ⟨rfl, hb1⟩
        obtain ⟨hc1, hf1⟩ := bcell hb1
        have hz1 := hb1.size
        try simp at hz1
        dsimp only
        repeat (first | go_values | go_skip | go_guarded | go_step | go_upon)
        go_ret
        exact ⟨rfl, (by repeat (first | exact Below.refl _ _ | assumption | refine bal ?_ _ | refine bdr ?_ | refine bdrn ?_ _ | (refine bset ?_ (by first | exact Nat.le_refl _ | (simp; done) | (simp; omega) | omega) _) | refine bstep ?_ (by assumption)))⟩
      | false =>
        have hv : (okH 5 t c n && false) = false := by simp [okH, HZ.out, hnm, hn]
        rw [hv]
        clear hv
        try clear hn
        try clear htx
        try clear se
        have HQ := Lib.hid (H.out true rfl)
        clear H
        go_enter Tryz.func48, Tryz.ntmps48
        repeat (first | go_values | go_skip | go_guarded | go_step | go_upon)
        refine (HN.out _).mono ?_
        rintro e w5 ⟨rfl, hb5⟩
        obtain ⟨hc5, hf5⟩ := bcell hb5
        have hz5 := hb5.size
        try simp at hz5
        dsimp only
        repeat (first | go_values | go_skip | go_guarded | go_step | go_upon)
        refine (HQ.out _ (by repeat (first | exact Below.refl _ _ | assumption | refine bal ?_ _ | refine bdr ?_ | refine bdrn ?_ _ | (refine bset ?_ (by first | exact Nat.le_refl _ | (simp; done) | (simp; omega) | omega) _) | refine bstep ?_ (by assumption)))).mono ?_
        rintro e w1 ⟨rfl, hb1⟩
        obtain ⟨hc1, hf1⟩ := bcell hb1
        have hz1 := hb1.size
        try simp at hz1
        dsimp only
        repeat (first | go_values | go_skip | go_guarded | go_step | go_upon)
        go_ret
        exact ⟨rfl, (by repeat (first | exact Below.refl _ _ | assumption | refine bal ?_ _ | refine bdr ?_ | refine bdrn ?_ _ | (refine bset ?_ (by first | exact Nat.le_refl _ | (simp; done) | (simp; omega) | omega) _) | refine bstep ?_ (by assumption)))⟩
    · have e0 : ((n : Int) == 0) = false := by simpa using hn
      have hv : (okH 5 t c n && q) = false := by simp [okH, HZ.out, hnm, hn]
      rw [hv]
      clear hv
      try clear hn
      try clear htx
      try clear se
      go_enter Tryz.func48, Tryz.ntmps48
      repeat (first | go_values | go_skip | go_guarded | go_step | go_upon)
      refine (HN.out _).mono ?_
      rintro e w5 ⟨rfl, hb5⟩
      obtain ⟨hc5, hf5⟩ := bcell hb5
      have hz5 := hb5.size
      try simp at hz5
      dsimp only
      repeat (first | go_values | go_skip | go_guarded | go_step | go_upon)
      go_ret
      exact ⟨rfl, (by repeat (first | exact Below.refl _ _ | assumption | refine bal ?_ _ | refine bdr ?_ | refine bdrn ?_ _ | (refine bset ?_ (by first | exact Nat.le_refl _ | (simp; done) | (simp; omega) | omega) _) | refine bstep ?_ (by assumption)))⟩
  · have hnf : isName t = false := by simpa using hnm
    rw [hnf] at HN
    have hv : (okH 5 t c n && q) = false := by simp [okH, HZ.out, hnf]
    rw [hv]
    clear hv
    try clear hn
    try clear htx
    try clear se
    go_enter Tryz.func48, Tryz.ntmps48
    repeat (first | go_values | go_skip | go_guarded | go_step | go_upon)
    refine (HN.out _).mono ?_
    rintro e w5 ⟨rfl, hb5⟩
    obtain ⟨hc5, hf5⟩ := bcell hb5
    have hz5 := hb5.size
    try simp at hz5
    dsimp only
    repeat (first | go_values | go_skip | go_guarded | go_step | go_upon)
    go_ret
    exact ⟨rfl, (by repeat (first | exact Below.refl _ _ | assumption | refine bal ?_ _ | refine bdr ?_ | refine bdrn ?_ _ | (refine bset ?_ (by first | exact Nat.le_refl _ | (simp; done) | (simp; omega) | omega) _) | refine bstep ?_ (by assumption)))⟩
set_option maxRecDepth 100000 in
set_option maxHeartbeats 6400000 in
theorem node_ko {k p : Int} {t : List UInt8} {c : BitVec 256} {a : Option Addr} {n cap : Nat} {q : Bool} (hc : c = 0) (h3 : k ≠ 3) (h1 : k ≠ 1) (h2 : k ≠ 2) (h4 : k ≠ 4) (h5 : k ≠ 5) (h6 : k ≠ 6) (h7 : k ≠ 7) (h8 : k ≠ 8) (h9 : k ≠ 9) (h10 : k ≠ 10) (h11 : k ≠ 11) (h12 : k ≠ 12) (w : World) (_ : t.length ≤ 1000000000) (_ : n ≤ 140737488355328)
    (HC : ∀ q2, q = !q2 → ∀ w', Below w.heap.size w w' → Calls Tryz.prog 76 #[.slice a n cap, .func (.func 77) #[] #[]] w' (Ans (.bool q2) w')) : Calls Tryz.prog 48 #[.agg (trC k t c (.slice a n cap) p).toArray] w (Ans (.bool (okH k t c n && q)) w) := by
  have f8 := guard_cl
  have f9 := equal_cl4
  have hm1 := cell_alloc_lt
  have H := Lib.hid HC
  clear HC
  dsimp only [trC]
  have hse := str_empty t
  have hsz : (mkS t).size = t.length := mkS_size t
  have hz := cl_zero c
  have hc0 : (c == 0) = true := by rw [hc]; rfl
  rw [hc0] at hz
  have hw0 : wd c 0 = 0 := by rw [hc]; exact wd_zero' 0
  have hw1 : wd c 1 = 0 := by rw [hc]; exact wd_zero' 1
  have hw2 : wd c 2 = 0 := by rw [hc]; exact wd_zero' 2
  have hw3 : wd c 3 = 0 := by rw [hc]; exact wd_zero' 3
  have HZ := Lib.hid (show c = 0#256 from hc)
  clear hc
  have g3 : (k == 3) = false := by simpa using h3
  have g1 : (k == 1) = false := by simpa using h1
  have g2 : (k == 2) = false := by simpa using h2
  have g4 : (k == 4) = false := by simpa using h4
  have g5 : (k == 5) = false := by simpa using h5
  have g6 : (k == 6) = false := by simpa using h6
  have g7 : (k == 7) = false := by simpa using h7
  have g8 : (k == 8) = false := by simpa using h8
  have g9 : (k == 9) = false := by simpa using h9
  have g10 : (k == 10) = false := by simpa using h10
  have g11 : (k == 11) = false := by simpa using h11
  have g12 : (k == 12) = false := by simpa using h12
  have e3 : (k != 3) = true := by simpa using h3
  have hv : (okH k t c n && q) = false := by simp [okH, HZ.out, h3, h1, h2, h4, h5, h6, h7, h8, h9, h10, h11, h12]
  rw [hv]
  clear hv
  try clear hn
  try clear htx
  try clear se
  go_enter Tryz.func48, Tryz.ntmps48
  repeat (first | go_values | go_skip | go_guarded | go_step | go_upon)
  go_ret
  exact ⟨rfl, (by repeat (first | exact Below.refl _ _ | assumption | refine bal ?_ _ | refine bdr ?_ | refine bdrn ?_ _ | (refine bset ?_ (by first | exact Nat.le_refl _ | (simp; done) | (simp; omega) | omega) _) | refine bstep ?_ (by assumption)))⟩
set_option maxRecDepth 100000 in
set_option maxHeartbeats 6400000 in
theorem node_kc {k p : Int} {t : List UInt8} {c : BitVec 256} {a : Option Addr} {n cap : Nat} {q : Bool} (hc : ¬ c = 0) (h3 : k ≠ 3) (w : World) (_ : t.length ≤ 1000000000) (_ : n ≤ 140737488355328)
    (HC : ∀ q2, q = !q2 → ∀ w', Below w.heap.size w w' → Calls Tryz.prog 76 #[.slice a n cap, .func (.func 77) #[] #[]] w' (Ans (.bool q2) w')) : Calls Tryz.prog 48 #[.agg (trC k t c (.slice a n cap) p).toArray] w (Ans (.bool (okH k t c n && q)) w) := by
  have f8 := guard_cl
  have f9 := equal_cl4
  have hm1 := cell_alloc_lt
  have H := Lib.hid HC
  clear HC
  dsimp only [trC]
  have hse := str_empty t
  have hsz : (mkS t).size = t.length := mkS_size t
  have hz := cl_zero c
  have e3 : (k != 3) = true := by simpa using h3
  have hc0 : (c == 0) = false := by simpa using hc
  rw [hc0] at hz
  have hv : (okH k t c n && q) = false := by simp [okH, h3, (show ¬ c = 0#256 from hc)]
  rw [hv]
  clear hv
  try clear hn
  try clear htx
  try clear se
  go_enter Tryz.func48, Tryz.ntmps48
  repeat (first | go_values | go_skip | go_guarded | go_step | go_upon)
  go_ret
  exact ⟨rfl, (by repeat (first | exact Below.refl _ _ | assumption | refine bal ?_ _ | refine bdr ?_ | refine bdrn ?_ _ | (refine bset ?_ (by first | exact Nat.le_refl _ | (simp; done) | (simp; omega) | omega) _) | refine bstep ?_ (by assumption)))⟩
end Go.Proofs.YteohgaheockepaaGreatDoor
