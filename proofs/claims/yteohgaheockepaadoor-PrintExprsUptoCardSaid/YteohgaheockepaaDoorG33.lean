/- printer.rank; the contracts of expr and part; part out of expr. | The closure of expr: parts with a text between each two. | printer's expr, by the kinds of nodes. | printer's expr, by the kinds of nodes. -/
import Derived.Test.YteohgaheockepaaDoorG41
import Derived.Test.YteohgaheockepaaDoorG31
import Derived.Test.YteohgaheockepaaDoorG32
namespace Go.Proofs.YteohgaheockepaaDoor
open Go.RowKit Go.Sort

set_option maxRecDepth 100000 in
theorem rank_any (k : Int) (w : World) : Calls Tryd.prog 47 #[.int .i64 k] w (Ans (.int .i64 ((rankT k : Nat) : Int)) w) := by
  by_cases h8 : k = 8
  · subst h8
    go_enter Tryd.func47, Tryd.ntmps47
    repeat (first | go_values | go_skip | go_guarded | go_step | go_upon)
    go_ret
    exact ⟨rfl, (by repeat (first | exact Below.refl _ _ | assumption | refine bal ?_ _ | refine bdr ?_ | refine bdrn ?_ _ | (refine bset ?_ (by first | exact Nat.le_refl _ | (simp; done) | (simp; omega) | omega) _) | refine bstep ?_ (by assumption)))⟩
  by_cases h9 : k = 9
  · subst h9
    go_enter Tryd.func47, Tryd.ntmps47
    repeat (first | go_values | go_skip | go_guarded | go_step | go_upon)
    go_ret
    exact ⟨rfl, (by repeat (first | exact Below.refl _ _ | assumption | refine bal ?_ _ | refine bdr ?_ | refine bdrn ?_ _ | (refine bset ?_ (by first | exact Nat.le_refl _ | (simp; done) | (simp; omega) | omega) _) | refine bstep ?_ (by assumption)))⟩
  by_cases h10 : k = 10
  · subst h10
    go_enter Tryd.func47, Tryd.ntmps47
    repeat (first | go_values | go_skip | go_guarded | go_step | go_upon)
    go_ret
    exact ⟨rfl, (by repeat (first | exact Below.refl _ _ | assumption | refine bal ?_ _ | refine bdr ?_ | refine bdrn ?_ _ | (refine bset ?_ (by first | exact Nat.le_refl _ | (simp; done) | (simp; omega) | omega) _) | refine bstep ?_ (by assumption)))⟩
  by_cases h11 : k = 11
  · subst h11
    go_enter Tryd.func47, Tryd.ntmps47
    repeat (first | go_values | go_skip | go_guarded | go_step | go_upon)
    go_ret
    exact ⟨rfl, (by repeat (first | exact Below.refl _ _ | assumption | refine bal ?_ _ | refine bdr ?_ | refine bdrn ?_ _ | (refine bset ?_ (by first | exact Nat.le_refl _ | (simp; done) | (simp; omega) | omega) _) | refine bstep ?_ (by assumption)))⟩
  by_cases h12 : k = 12
  · subst h12
    go_enter Tryd.func47, Tryd.ntmps47
    repeat (first | go_values | go_skip | go_guarded | go_step | go_upon)
    go_ret
    exact ⟨rfl, (by repeat (first | exact Below.refl _ _ | assumption | refine bal ?_ _ | refine bdr ?_ | refine bdrn ?_ _ | (refine bset ?_ (by first | exact Nat.le_refl _ | (simp; done) | (simp; omega) | omega) _) | refine bstep ?_ (by assumption)))⟩
  by_cases h6 : k = 6
  · subst h6
    go_enter Tryd.func47, Tryd.ntmps47
    repeat (first | go_values | go_skip | go_guarded | go_step | go_upon)
    go_ret
    exact ⟨rfl, (by repeat (first | exact Below.refl _ _ | assumption | refine bal ?_ _ | refine bdr ?_ | refine bdrn ?_ _ | (refine bset ?_ (by first | exact Nat.le_refl _ | (simp; done) | (simp; omega) | omega) _) | refine bstep ?_ (by assumption)))⟩
  by_cases h7 : k = 7
  · subst h7
    go_enter Tryd.func47, Tryd.ntmps47
    repeat (first | go_values | go_skip | go_guarded | go_step | go_upon)
    go_ret
    exact ⟨rfl, (by repeat (first | exact Below.refl _ _ | assumption | refine bal ?_ _ | refine bdr ?_ | refine bdrn ?_ _ | (refine bset ?_ (by first | exact Nat.le_refl _ | (simp; done) | (simp; omega) | omega) _) | refine bstep ?_ (by assumption)))⟩
  have hr : rankT k = 4 := by simp [rankT, h6, h7, h8, h9, h10, h11, h12]
  rw [hr]
  have g6 : (k == 6) = false := by simpa using h6
  have g7 : (k == 7) = false := by simpa using h7
  have g8 : (k == 8) = false := by simpa using h8
  have g9 : (k == 9) = false := by simpa using h9
  have g10 : (k == 10) = false := by simpa using h10
  have g11 : (k == 11) = false := by simpa using h11
  have g12 : (k == 12) = false := by simpa using h12
  clear hr
  go_enter Tryd.func47, Tryd.ntmps47
  repeat (first | go_values | go_skip | go_guarded | go_step | go_upon)
  go_ret
  exact ⟨rfl, (by repeat (first | exact Below.refl _ _ | assumption | refine bal ?_ _ | refine bdr ?_ | refine bdrn ?_ _ | (refine bset ?_ (by first | exact Nat.le_refl _ | (simp; done) | (simp; omega) | omega) _) | refine bstep ?_ (by assumption)))⟩
/-- What writing on a page leaves. -/
def PgP (b : Nat) (A t : List UInt8) (m : Nat) (w : World) (e : Ending) (w' : World) : Prop :=
  e = .returned (.tuple #[]) ∧ ∃ A' : List UInt8, Wr A t A' ∧ A'.length ≤ A.length + m ∧ Pg b b (Lib.byteCells A') w' ∧ Below b w w' ∧ Oth b w w'
/-- The contract of expr at a tree. -/
def ExprC (n : Tr) : Prop := ∀ (b : Nat) (A : List UInt8) (w : World) (P : Nat → Prop) (c : List Value), RepA w P n c → (∀ x, P x → x < b) → Pg b b (Lib.byteCells A) w → A.length + 3000 * n.bulk ≤ 100000000000000 → OkT n →
  Calls Tryd.prog 16 #[.pointer (some ⟨b, 0, none⟩), .agg c.toArray] w (PgP b A (txT n) (3000 * n.bulk - 5) w)
theorem bulk_pos (n : Tr) : 1 ≤ n.bulk := by
  cases n
  rw [Tr.bulk]
  omega
theorem oth_below (b : Nat) {w w' : World} (h : Below w.heap.size w w') : Oth b w w' := fun k _ hk _ _ => (h.block k (Array.getElem?_eq_some_iff.1 hk).1).trans hk
theorem oth_cell {b : Nat} {w w' : World} (h : Oth b w w') {k : Nat} {c : Array Value} {T : Nat} {fz : Nat × Nat} (hk : w.heap[k]? = some (.cells c T fz)) (hb : k ≠ b) (hT : T ≠ 5) : w'.heap[k]? = some (.cells c T fz) :=
  h k _ hk (fun e => hb (Option.some.inj e)) (fun c' fz' e => by injection e with _ e; exact hT e)
set_option maxRecDepth 100000 in
set_option maxHeartbeats 3200000 in
theorem ppart_any {n : Tr} (HE : ExprC n) (r : Nat) (b : Nat) (A : List UInt8) (w : World) (P : Nat → Prop) (c : List Value) (hr : RepA w P n c) (hP : ∀ x, P x → x < b) (hp : Pg b b (Lib.byteCells A) w) (hb : A.length + 3 + 3000 * n.bulk ≤ 100000000000000) (ho : OkT n) :
    Calls Tryd.prog 30 #[.pointer (some ⟨b, 0, none⟩), .agg c.toArray, .int .i64 (r : Nat)] w (PgP b A (txQ r n) (3000 * n.bulk - 3) w) := by
  have hn1 := bulk_pos n
  have hlt := pg_lt hp
  obtain ⟨k, t, x, v, l, p, hnn, rfl, hl⟩ := hr.form
  obtain ⟨sa, cap, rfl, _⟩ := hl.slice
  have hkd : n.kind = k := by rw [hnn]; rfl
  have hm1 := cell_alloc_lt
  have HPg := Lib.hid hp
  have HR := Lib.hid hr
  have HK := Lib.hid (fun w => rank_any k w)
  have HB := Lib.hid (fun (A2 : List UInt8) (w2 : World) (hA : A2.length ≤ A.length + 1) (h2 : Pg b b (Lib.byteCells A2) w2) (hw : Below b w w2) => HE b A2 w2 P _ (hr.mono (fun y hy => hw.block y (hP y hy)) (fun _ h => h)) hP h2 (by omega) ho)
  clear hr hl hp hnn HE
  dsimp only [trC] at HB ⊢
  by_cases hrk : r ≤ rankT k
  · have htx : txQ r n = txT n := txQ_in (by rw [hkd]; exact hrk)
    rw [htx]
    have d1 : decide ((r : Int) ≤ ((rankT k : Nat) : Int)) = true := by simp; omega
    have d2 : decide (r ≤ rankT k) = true := by simpa using hrk
    clear htx hkd
    generalize rankT k = rk at *
    go_enter Tryd.func30, Tryd.ntmps30
    repeat (first | go_values | go_skip | go_guarded | go_step | go_upon)
    refine (HK.out _).mono ?_
    rintro e w1 ⟨rfl, hb1⟩
    obtain ⟨hc1, hf1⟩ := bcell hb1
    have hz1 := hb1.size
    try simp at hz1
    dsimp only
    have hw1 : Below w.heap.size w w1 := (by repeat (first | exact Below.refl _ _ | assumption | refine bal ?_ _ | refine bdr ?_ | refine bdrn ?_ _ | (refine bset ?_ (by first | exact Nat.le_refl _ | (simp; done) | (simp; omega) | omega) _) | refine bstep ?_ (by assumption)))
    have hwb1 : Below b w w1 := hw1.mono (Nat.le_of_lt hlt)
    have hP1 := pg_below HPg.out hw1
    repeat (first | go_values | go_skip | go_guarded | go_step | go_upon)
    refine (HB.out A w1 (by omega) hP1 hwb1).mono ?_
    rintro e w2 ⟨rfl, A', h1, h2, h3, h4, h5⟩
    dsimp only
    repeat (first | go_values | go_skip | go_guarded | go_step | go_upon)
    first | go_end0 | go_ret | (refine bodyPost_ret (v := .tuple #[]) (by rfl) rfl ?_)
    exact ⟨rfl, A', h1, by omega, h3, hwb1.trans h4, (oth_below b hw1).trans h5⟩
  · have htx : txQ r n = [40] ++ (txT n ++ [41]) := txQ_out (by rw [hkd]; exact hrk)
    rw [htx]
    have d1 : decide ((r : Int) ≤ ((rankT k : Nat) : Int)) = false := by simp; omega
    have d2 : decide (r ≤ rankT k) = false := by simpa using hrk
    clear htx hkd
    generalize rankT k = rk at *
    go_enter Tryd.func30, Tryd.ntmps30
    repeat (first | go_values | go_skip | go_guarded | go_step | go_upon)
    refine (HK.out _).mono ?_
    rintro e w1 ⟨rfl, hb1⟩
    obtain ⟨hc1, hf1⟩ := bcell hb1
    have hz1 := hb1.size
    try simp at hz1
    dsimp only
    have hw1 : Below w.heap.size w w1 := (by repeat (first | exact Below.refl _ _ | assumption | refine bal ?_ _ | refine bdr ?_ | refine bdrn ?_ _ | (refine bset ?_ (by first | exact Nat.le_refl _ | (simp; done) | (simp; omega) | omega) _) | refine bstep ?_ (by assumption)))
    have hwb1 : Below b w w1 := hw1.mono (Nat.le_of_lt hlt)
    have hP1 := pg_below HPg.out hw1
    have hbx1 := (hb1.block w.heap.size (by simp)).trans (heap_alloc_new w _)
    repeat (first | go_values | go_skip | go_guarded | go_step | go_upon)
    refine (pg_wb b A 40 40 w1 rfl hP1 (by omega)).mono ?_
    rintro e w2 ⟨rfl, hB2, hb2, ho2⟩
    have hbx2 := oth_cell ho2 hbx1 (by omega) (by decide)
    have cC2 := (cells_at hbx2).1
    dsimp only
    repeat (first | go_values | go_skip | go_guarded | go_step | go_upon)
    refine (HB.out (A ++ [40]) w2 (by simp) hB2 (hwb1.trans hb2)).mono ?_
    rintro e w3 ⟨rfl, A', h1, h2, h3, h4, h5⟩
    rw [List.length_append, List.length_singleton] at h2
    dsimp only
    repeat (first | go_values | go_skip | go_guarded | go_step | go_upon)
    refine (pg_wb b A' 41 41 w3 rfl h3 (by omega)).mono ?_
    rintro e w4 ⟨rfl, hB4, hb4, ho4⟩
    dsimp only
    repeat (first | go_values | go_skip | go_guarded | go_step | go_upon)
    first | go_end0 | go_ret | (refine bodyPost_ret (v := .tuple #[]) (by rfl) rfl ?_)
    exact ⟨rfl, A' ++ [41], (Wr.put A [40]).trans (h1.trans (Wr.put A' [41])), by rw [List.length_append, List.length_singleton]; omega, hB4, hwb1.trans (hb2.trans (h4.trans hb4)), (oth_below b hw1).trans (ho2.trans (h5.trans ho4))⟩
end Go.Proofs.YteohgaheockepaaDoor
namespace Go.Proofs.YteohgaheockepaaDoor
open Go.RowKit Go.Sort

def rowTx (S : List UInt8) (r : Nat) : List Tr → List UInt8
  | [] => []
  | n :: l => txQ r n ++ txR S r l
theorem rowTx_snoc (S : List UInt8) (r : Nat) (l : List Tr) (n : Tr) : rowTx S r (l ++ [n]) = rowTx S r l ++ ((if l.length = 0 then [] else S) ++ txQ r n) := by
  cases l with
  | nil => simp [rowTx, txR]
  | cons m l => rw [List.cons_append, rowTx, rowTx, txR_snoc, if_neg (by simp)]; simp
theorem bulks_take {l : List Tr} {j : Nat} {y : Tr} (h : l[j]? = some y) : Tr.bulks (l.take j) + y.bulk = Tr.bulks (l.take (j + 1)) ∧ Tr.bulks (l.take (j + 1)) ≤ Tr.bulks l := by
  induction l generalizing j with
  | nil => simp at h
  | cons m l ih =>
    cases j with
    | zero => simp at h; subst h; simp [Tr.bulks]
    | succ j =>
      have := ih (j := j) (by simpa using h)
      simp only [List.take_succ_cons, Tr.bulks]
      omega
theorem take_snoc {l : List Tr} {j : Nat} {y : Tr} (h : l[j]? = some y) : l.take (j + 1) = l.take j ++ [y] := by
  rw [List.take_add_one, h]
  rfl
/-- What stands of a row behind j parts. -/
def RowJ (S : List UInt8) (r b : Nat) (A : List UInt8) (l : List Tr) (w : World) (j : Nat) (wr : World) : Prop :=
  ∃ A' : List UInt8, Wr A (rowTx S r (l.take j)) A' ∧ A'.length ≤ A.length + 3000 * Tr.bulks (l.take j) ∧ Pg b b (Lib.byteCells A') wr ∧ Below b w wr ∧ Oth b w wr
theorem size_ge {b : Nat} {w w' : World} (h : Below b w w') : w.heap.size ≤ w'.heap.size := h.size
set_option maxRecDepth 100000 in
set_option maxHeartbeats 6400000 in
theorem prow_any {l : List Tr} (IH : ∀ m ∈ l, ExprC m) (ho : ∀ m ∈ l, OkT m) (S : List UInt8) (hS : S.length ≤ 3) (r b nb pb : Nat) (A : List UInt8) (w : World) (P : Nat → Prop) {k p : Int} {t : List UInt8} {x : BitVec 256} {v : Value}
    (hbox : w.heap[nb]? = some (.cells (trC k t x v p).toArray 39 (0, 0))) (hpb : w.heap[pb]? = some (.cells #[.pointer (some ⟨b, 0, none⟩)] 73 (0, 0))) (_ : nb ≠ b) (hpn : pb ≠ b) (hl : RepL w P l v) (hP : ∀ x, P x → x < b) (hp : Pg b b (Lib.byteCells A) w) (hlen : A.length + 3000 * Tr.bulks l ≤ 99999999997010) :
    Calls Tryd.prog 29 #[.string ⟨S.toArray⟩, .int .i64 (r : Nat), .pointer (some ⟨nb, 0, none⟩), .pointer (some ⟨pb, 0, none⟩)] w (PgP b A (rowTx S r l) (3000 * Tr.bulks l) w) := by
  obtain ⟨n, hn⟩ : ∃ n, n = l.length := ⟨_, rfl⟩
  obtain ⟨a, cap, rfl, hcap, hmax⟩ := hl.slice
  have hblt := pg_lt hp
  have hm1 := cell_alloc_lt
  have HL := Lib.hid hl
  have HP := Lib.hid hP
  have HI := Lib.hid IH
  have HO := Lib.hid ho
  have HPB := Lib.hid hpb
  have HST := Lib.hid (show RowJ S r b A l w 0 w from ⟨A, Wr.refl A, by simp, hp, Below.refl _ _, Lib.OthersKept.refl _ _ _⟩)
  rw [← hn] at hcap hmax hbox
  have HN := Lib.hid hn
  unfold maxLen at hmax
  dsimp only [trC] at hbox
  have s6 : w.cell? ⟨nb, 6, none⟩ = some (.slice a n cap) := (cells_at hbox).1 6
  clear hl hP IH ho hpb hp hn hbox
  go_enter Tryd.func29, Tryd.ntmps29
  repeat (first | go_values | go_skip | go_guarded | go_step | go_upon)
  go_loopw [11] (fun tt wr => ∃ j : Nat, tt = .int .i64 (j : Int) ∧ j ≤ n ∧ Hid (RowJ S r b A l w j wr)) (fun tt _ => n - (intOf tt).toNat)
  case atStart => exact ⟨0, rfl, Nat.zero_le _, HST⟩
  case round =>
    obtain ⟨j, rfl, hj, hI⟩ := hrel
    obtain ⟨Aj, i1, i2, i3, i4, i5⟩ := hI.out
    by_cases hlt : j < n
    · have hlt2 : j < l.length := by rw [← HN.out]; exact hlt
      obtain ⟨y, hy⟩ : ∃ y, l[j]? = some y := ⟨l[j], List.getElem?_eq_getElem hlt2⟩
      have hmem := List.mem_of_getElem? hy
      have hbk := bulks_take hy
      have hbp := bulk_pos y
      rcases HL.out.parts with ⟨e, _⟩ | ⟨e, _⟩ | ⟨g, o, cap', e, hg, _, _, _, hr⟩
      · rw [e] at hlt2; simp at hlt2
      · rw [e] at hlt2; simp at hlt2
      · obtain rfl : a = some ⟨g, o, none⟩ := by injection e
        have hPw : ∀ b', P b' → wr.heap[b']? = w.heap[b']? := fun b' hb' => i4.block b' (HP.out b' hb')
        have hsz := i4.size
        obtain ⟨k1, t1, x1, sa, sn, sc, p1, l1, _, q0, _, a0, a1, a2, a3, a4, a5, a6, a7⟩ := (hr.mono (w' := wr) (P' := P) hPw (fun _ h => h) hg).get hy
        have hpb2 := oth_cell i5 HPB.out hpn (by decide)
        have qp := (Array.getElem?_eq_some_iff.1 hpb2).1
        have c0 : wr.cell? ⟨pb, 0, none⟩ = some (.pointer (some ⟨b, 0, none⟩)) := (cells_at hpb2).1 0
        have qb := pg_lt i3
        have d1 : decide ((j : Int) < n) = true := by simpa using hlt
        have k5 : IntKind.i64.wrap ((j : Int) + 1) = (j : Int) + 1 := by rw [IntKind.wrap_i64]; omega
        have HC := Lib.hid (fun (A2 : List UInt8) (w2 : World) (hA : A2.length + 3 + 3000 * y.bulk ≤ 100000000000000) (h2 : Pg b b (Lib.byteCells A2) w2) (hw : Below b w w2) => ppart_any (HI.out y hmem) r b A2 w2 P _ (q0.mono (w' := w2) (fun b' hb' => (hw.block b' (HP.out b' hb')).trans (hPw b' hb').symm) (fun _ h => h)) HP.out h2 hA (HO.out y hmem))
        have HTK := Lib.hid (take_snoc hy)
        have HI1 := Lib.hid i1
        have HI3 := Lib.hid i3
        have HI4 := Lib.hid i4
        have HI5 := Lib.hid i5
        have HBX := Lib.hid (heap_alloc_new wr (.cells (trC k1 t1 x1 (.slice sa sn sc) p1).toArray 39))
        have HBP := Lib.hid ((RowKit.Below.heap_alloc wr (.cells (trC k1 t1 x1 (.slice sa sn sc) p1).toArray 39) pb qp).trans hpb2)
        have HPG := Lib.hid (pg_below i3 (bal (Below.refl _ wr) (.cells (trC k1 t1 x1 (.slice sa sn sc) p1).toArray 39)))
        have HLE := Lib.hid (show (l.take j).length = j by rw [List.length_take]; omega)
        clear hy hmem q0 hr e hPw hI i1 i3 i4 i5 hpb2
        dsimp only [trC] at HC HBX HBP HPG
        by_cases hj0 : j = 0
        · have d2 : decide ((0 : Int) < (j : Int)) = false := by simp; omega
          have d2' : decide (0 < j) = false := by simp; omega
          have HJ0 := Lib.hid hj0
          clear hj0
          repeat (first | go_values | go_skip | go_guarded | go_step | go_upon)
          refine (HC.out Aj _ (by omega) HPG.out (HI4.out.trans ((bal (Below.refl _ wr) _).mono (Nat.le_of_lt qb)))).mono ?_
          rintro e w2 ⟨rfl, A2, h1, h2, h3, h4, h5⟩
          have HF := Lib.hid (show RowJ S r b A l w (j + 1) w2 from ⟨A2, by
            rw [HTK.out, rowTx_snoc, HLE.out, if_pos HJ0.out, List.nil_append]
            exact HI1.out.trans h1, by omega, h3, HI4.out.trans (((bal (Below.refl _ wr) _).mono (Nat.le_of_lt qb)).trans h4), (HI5.out.alloc _).trans h5⟩)
          clear h1 h2 h3 h4 h5
          dsimp only
          repeat (first | go_values | go_skip | go_guarded | go_step | go_upon)
          exact ⟨⟨j + 1, by go_num, by omega, HF⟩, by simp [intOf]; omega⟩
        · have d2 : decide ((0 : Int) < (j : Int)) = true := by simp; omega
          have d2' : decide (0 < j) = true := by simp; omega
          have HJ0 := Lib.hid hj0
          clear hj0
          repeat (first | go_values | go_skip | go_guarded | go_step | go_upon)
          refine (pg_ws b Aj S _ HPG.out (by omega)).mono ?_
          rintro e w3 ⟨rfl, hB3, hb3, ho3⟩
          have hbx3 := oth_cell ho3 HBX.out (by omega) (by decide)
          have hbp3 := oth_cell ho3 HBP.out hpn (by decide)
          have cB3 := (cells_at hbx3).1
          have cP3 : w3.cell? ⟨pb, 0, none⟩ = some (.pointer (some ⟨b, 0, none⟩)) := (cells_at hbp3).1 0
          have HB3 := Lib.hid (show Below b w w3 from HI4.out.trans (((bal (Below.refl _ wr) _).mono (Nat.le_of_lt qb)).trans hb3))
          clear hbx3 hbp3
          dsimp only
          repeat (first | go_values | go_skip | go_guarded | go_step | go_upon)
          refine (HC.out (Aj ++ S) _ (by rw [List.length_append]; omega) hB3 HB3.out).mono ?_
          rintro e w2 ⟨rfl, A2, h1, h2, h3, h4, h5⟩
          rw [List.length_append] at h2
          have HF := Lib.hid (show RowJ S r b A l w (j + 1) w2 from ⟨A2, by
            rw [HTK.out, rowTx_snoc, HLE.out, if_neg HJ0.out]
            exact HI1.out.trans ((Wr.put Aj S).trans h1), by omega, h3, HB3.out.trans h4, (HI5.out.alloc _).trans (ho3.trans h5)⟩)
          clear h1 h2 h3 h4 h5
          dsimp only
          repeat (first | go_values | go_skip | go_guarded | go_step | go_upon)
          exact ⟨⟨j + 1, by go_num, by omega, HF⟩, by simp [intOf]; omega⟩
    · have d1 : decide (j < n) = false := by simpa using hlt
      have hjn : j = l.length := by rw [← HN.out]; omega
      rw [hjn, List.take_length] at i1 i2
      have HF := Lib.hid (show PgP b A (rowTx S r l) (3000 * Tr.bulks l) w (.returned (.tuple #[])) wr from ⟨rfl, Aj, i1, i2, i3, i4, i5⟩)
      clear hlt hjn i1 i2 i3 i4 i5 hI
      repeat (first | go_values | go_skip | go_guarded | go_step | go_upon)
      go_end0
      exact HF.out
end Go.Proofs.YteohgaheockepaaDoor
namespace Go.Proofs.YteohgaheockepaaDoor
open Go.RowKit Go.Sort

theorem mkS_bl' (t : List UInt8) : bl (mkS t) = t := by simp [bl, mkS]
theorem quoted_le (p : List UInt8) : (quoted p).length ≤ 4 * p.length + 2 := by
  have := quoTo_len p p.length
  rw [quoted, List.length_append, List.length_singleton]
  omega
theorem txt_le (c : BitVec 256) : (txt c).length ≤ 2400 := by
  have h := txK_len (runs c) (runs c).length
  have h2 : (runs c).length ≤ 257 := runs_len c 257 _
  rw [txt, List.length_append, List.length_singleton]
  omega
set_option maxRecDepth 100000 in
set_option maxHeartbeats 6400000 in
theorem expr_k1 {p : Int} {t : List UInt8} {c : BitVec 256} {a : Option Addr} {n cap : Nat} (b : Nat) (A : List UInt8) (w : World) (hp : Pg b b (Lib.byteCells A) w) (hA : A.length ≤ 99999999997000) :
    Calls Tryd.prog 16 #[.pointer (some ⟨b, 0, none⟩), .agg (trC 1 t c (.slice a n cap) p).toArray] w (PgP b A [40, 41] 2 w) := by
  have hlt := pg_lt hp
  have hm1 := cell_alloc_lt
  have HPg := Lib.hid hp
  have HWD := Lib.hid (fun (q : Bool) (hq : decide (8192 < A.length) = q) (w' : World) (h : Below w.heap.size w w') => wide_any b A q hq w' (pg_below hp h))
  clear hp
  dsimp only [trC]
  by_cases hw : 8192 < A.length
  · have HQ := Lib.hid (HWD.out true (decide_eq_true hw))
    go_enter Tryd.func16, Tryd.ntmps16
    repeat (first | go_values | go_skip | go_guarded | go_step | go_upon)
    refine (HQ.out _ (by repeat (first | exact Below.refl _ _ | assumption | refine bal ?_ _ | refine bdr ?_ | refine bdrn ?_ _ | (refine bset ?_ (by first | exact Nat.le_refl _ | (simp; done) | (simp; omega) | omega) _) | refine bstep ?_ (by assumption)))).mono ?_
    rintro e w1 ⟨rfl, hb1⟩
    obtain ⟨hc1, hf1⟩ := bcell hb1
    have hz1 := hb1.size
    try simp at hz1
    dsimp only
    have hw1 : Below w.heap.size w w1 := (by repeat (first | exact Below.refl _ _ | assumption | refine bal ?_ _ | refine bdr ?_ | refine bdrn ?_ _ | (refine bset ?_ (by first | exact Nat.le_refl _ | (simp; done) | (simp; omega) | omega) _) | refine bstep ?_ (by assumption)))
    repeat (first | go_values | go_skip | go_guarded | go_step | go_upon)
    first | go_end0 | go_ret | (refine bodyPost_ret (v := .tuple #[]) (by rfl) rfl ?_)
    exact ⟨rfl, A, Wr.wide hw, by omega, pg_below HPg.out hw1, hw1.mono (Nat.le_of_lt hlt), oth_below b hw1⟩
  · have HQ := Lib.hid (HWD.out false (decide_eq_false hw))
    clear hw
    go_enter Tryd.func16, Tryd.ntmps16
    repeat (first | go_values | go_skip | go_guarded | go_step | go_upon)
    refine (HQ.out _ (by repeat (first | exact Below.refl _ _ | assumption | refine bal ?_ _ | refine bdr ?_ | refine bdrn ?_ _ | (refine bset ?_ (by first | exact Nat.le_refl _ | (simp; done) | (simp; omega) | omega) _) | refine bstep ?_ (by assumption)))).mono ?_
    rintro e w1 ⟨rfl, hb1⟩
    obtain ⟨hc1, hf1⟩ := bcell hb1
    have hz1 := hb1.size
    try simp at hz1
    dsimp only
    have hw1 : Below w.heap.size w w1 := (by repeat (first | exact Below.refl _ _ | assumption | refine bal ?_ _ | refine bdr ?_ | refine bdrn ?_ _ | (refine bset ?_ (by first | exact Nat.le_refl _ | (simp; done) | (simp; omega) | omega) _) | refine bstep ?_ (by assumption)))
    have hwb : Below b w w1 := hw1.mono (Nat.le_of_lt hlt)
    have hP1 := pg_below HPg.out hw1
    have ho1 := oth_below b hw1
    have hbp := (hb1.block w.heap.size (by simp; omega)).trans ((RowKit.Below.heap_alloc _ _ _ (by simp)).trans (heap_alloc_new w _))
    have hbn := (hb1.block (w.heap.size + 1) (by simp)).trans (allocs_new w _ _)
    have cP := (cells_at hbp).1 0
    have cN := (cells_at hbn).1
    simp only [List.getElem?_toArray, List.getElem?_cons_zero] at cP
    have qb1 := pg_lt hP1
    have hwbd : Below b w w1.drew := hwb.trans ((drew_below w1).mono (Nat.le_of_lt qb1))
    have hod : Oth b w w1.drew := ho1.trans (oth_below b (drew_below w1))
    have qP : w.heap.size < w1.heap.size := (Array.getElem?_eq_some_iff.1 hbp).1
    have qN : w.heap.size + 1 < w1.heap.size := (Array.getElem?_eq_some_iff.1 hbn).1
    have HBP := Lib.hid hbp
    have HBN := Lib.hid hbn
    clear hbp hbn HQ HWD
    repeat (first | go_values | go_skip | go_guarded | go_step | go_upon)
    refine (pg_ws b A [40, 41] _ hP1 (by simp; omega)).mono ?_
    rintro e w2 ⟨rfl, hB2, hb2, ho2⟩
    dsimp only
    repeat (first | go_values | go_skip | go_guarded | go_step | go_upon)
    first | go_end0 | go_ret | (refine bodyPost_ret (v := .tuple #[]) (by rfl) rfl ?_)
    exact ⟨rfl, A ++ [40, 41], Wr.put A _, by simp, hB2, hwb.trans hb2, ho1.trans ho2⟩
set_option maxRecDepth 100000 in
set_option maxHeartbeats 6400000 in
theorem expr_k4 {p : Int} {t : List UInt8} {c : BitVec 256} {a : Option Addr} {n cap : Nat} (b : Nat) (A : List UInt8) (w : World) (hp : Pg b b (Lib.byteCells A) w) (hA : A.length ≤ 99999999997000) :
    Calls Tryd.prog 16 #[.pointer (some ⟨b, 0, none⟩), .agg (trC 4 t c (.slice a n cap) p).toArray] w (PgP b A [46] 1 w) := by
  have hlt := pg_lt hp
  have hm1 := cell_alloc_lt
  have HPg := Lib.hid hp
  have HWD := Lib.hid (fun (q : Bool) (hq : decide (8192 < A.length) = q) (w' : World) (h : Below w.heap.size w w') => wide_any b A q hq w' (pg_below hp h))
  clear hp
  dsimp only [trC]
  by_cases hw : 8192 < A.length
  · have HQ := Lib.hid (HWD.out true (decide_eq_true hw))
    go_enter Tryd.func16, Tryd.ntmps16
    repeat (first | go_values | go_skip | go_guarded | go_step | go_upon)
    refine (HQ.out _ (by repeat (first | exact Below.refl _ _ | assumption | refine bal ?_ _ | refine bdr ?_ | refine bdrn ?_ _ | (refine bset ?_ (by first | exact Nat.le_refl _ | (simp; done) | (simp; omega) | omega) _) | refine bstep ?_ (by assumption)))).mono ?_
    rintro e w1 ⟨rfl, hb1⟩
    obtain ⟨hc1, hf1⟩ := bcell hb1
    have hz1 := hb1.size
    try simp at hz1
    dsimp only
    have hw1 : Below w.heap.size w w1 := (by repeat (first | exact Below.refl _ _ | assumption | refine bal ?_ _ | refine bdr ?_ | refine bdrn ?_ _ | (refine bset ?_ (by first | exact Nat.le_refl _ | (simp; done) | (simp; omega) | omega) _) | refine bstep ?_ (by assumption)))
    repeat (first | go_values | go_skip | go_guarded | go_step | go_upon)
    first | go_end0 | go_ret | (refine bodyPost_ret (v := .tuple #[]) (by rfl) rfl ?_)
    exact ⟨rfl, A, Wr.wide hw, by omega, pg_below HPg.out hw1, hw1.mono (Nat.le_of_lt hlt), oth_below b hw1⟩
  · have HQ := Lib.hid (HWD.out false (decide_eq_false hw))
    clear hw
    go_enter Tryd.func16, Tryd.ntmps16
    repeat (first | go_values | go_skip | go_guarded | go_step | go_upon)
    refine (HQ.out _ (by repeat (first | exact Below.refl _ _ | assumption | refine bal ?_ _ | refine bdr ?_ | refine bdrn ?_ _ | (refine bset ?_ (by first | exact Nat.le_refl _ | (simp; done) | (simp; omega) | omega) _) | refine bstep ?_ (by assumption)))).mono ?_
    rintro e w1 ⟨rfl, hb1⟩
    obtain ⟨hc1, hf1⟩ := bcell hb1
    have hz1 := hb1.size
    try simp at hz1
    dsimp only
    have hw1 : Below w.heap.size w w1 := (by repeat (first | exact Below.refl _ _ | assumption | refine bal ?_ _ | refine bdr ?_ | refine bdrn ?_ _ | (refine bset ?_ (by first | exact Nat.le_refl _ | (simp; done) | (simp; omega) | omega) _) | refine bstep ?_ (by assumption)))
    have hwb : Below b w w1 := hw1.mono (Nat.le_of_lt hlt)
    have hP1 := pg_below HPg.out hw1
    have ho1 := oth_below b hw1
    have hbp := (hb1.block w.heap.size (by simp; omega)).trans ((RowKit.Below.heap_alloc _ _ _ (by simp)).trans (heap_alloc_new w _))
    have hbn := (hb1.block (w.heap.size + 1) (by simp)).trans (allocs_new w _ _)
    have cP := (cells_at hbp).1 0
    have cN := (cells_at hbn).1
    simp only [List.getElem?_toArray, List.getElem?_cons_zero] at cP
    have qb1 := pg_lt hP1
    have hwbd : Below b w w1.drew := hwb.trans ((drew_below w1).mono (Nat.le_of_lt qb1))
    have hod : Oth b w w1.drew := ho1.trans (oth_below b (drew_below w1))
    have qP : w.heap.size < w1.heap.size := (Array.getElem?_eq_some_iff.1 hbp).1
    have qN : w.heap.size + 1 < w1.heap.size := (Array.getElem?_eq_some_iff.1 hbn).1
    have HBP := Lib.hid hbp
    have HBN := Lib.hid hbn
    clear hbp hbn HQ HWD
    repeat (first | go_values | go_skip | go_guarded | go_step | go_upon)
    refine (pg_wb b A 46 46 _ rfl hP1 (by omega)).mono ?_
    rintro e w2 ⟨rfl, hB2, hb2, ho2⟩
    dsimp only
    repeat (first | go_values | go_skip | go_guarded | go_step | go_upon)
    first | go_end0 | go_ret | (refine bodyPost_ret (v := .tuple #[]) (by rfl) rfl ?_)
    exact ⟨rfl, A ++ [46], Wr.put A _, by simp, hB2, hwb.trans hb2, ho1.trans ho2⟩
set_option maxRecDepth 100000 in
set_option maxHeartbeats 6400000 in
theorem expr_k5 {p : Int} {t : List UInt8} {c : BitVec 256} {a : Option Addr} {n cap : Nat} (b : Nat) (A : List UInt8) (w : World) (hp : Pg b b (Lib.byteCells A) w) (hA : A.length ≤ 99999999997000) (ht : t.length ≤ 32) :
    Calls Tryd.prog 16 #[.pointer (some ⟨b, 0, none⟩), .agg (trC 5 t c (.slice a n cap) p).toArray] w (PgP b A t 32 w) := by
  have hlt := pg_lt hp
  have hm1 := cell_alloc_lt
  have HPg := Lib.hid hp
  have HWD := Lib.hid (fun (q : Bool) (hq : decide (8192 < A.length) = q) (w' : World) (h : Below w.heap.size w w') => wide_any b A q hq w' (pg_below hp h))
  clear hp
  dsimp only [trC]
  by_cases hw : 8192 < A.length
  · have HQ := Lib.hid (HWD.out true (decide_eq_true hw))
    go_enter Tryd.func16, Tryd.ntmps16
    repeat (first | go_values | go_skip | go_guarded | go_step | go_upon)
    refine (HQ.out _ (by repeat (first | exact Below.refl _ _ | assumption | refine bal ?_ _ | refine bdr ?_ | refine bdrn ?_ _ | (refine bset ?_ (by first | exact Nat.le_refl _ | (simp; done) | (simp; omega) | omega) _) | refine bstep ?_ (by assumption)))).mono ?_
    rintro e w1 ⟨rfl, hb1⟩
    obtain ⟨hc1, hf1⟩ := bcell hb1
    have hz1 := hb1.size
    try simp at hz1
    dsimp only
    have hw1 : Below w.heap.size w w1 := (by repeat (first | exact Below.refl _ _ | assumption | refine bal ?_ _ | refine bdr ?_ | refine bdrn ?_ _ | (refine bset ?_ (by first | exact Nat.le_refl _ | (simp; done) | (simp; omega) | omega) _) | refine bstep ?_ (by assumption)))
    repeat (first | go_values | go_skip | go_guarded | go_step | go_upon)
    first | go_end0 | go_ret | (refine bodyPost_ret (v := .tuple #[]) (by rfl) rfl ?_)
    exact ⟨rfl, A, Wr.wide hw, by omega, pg_below HPg.out hw1, hw1.mono (Nat.le_of_lt hlt), oth_below b hw1⟩
  · have HQ := Lib.hid (HWD.out false (decide_eq_false hw))
    clear hw
    go_enter Tryd.func16, Tryd.ntmps16
    repeat (first | go_values | go_skip | go_guarded | go_step | go_upon)
    refine (HQ.out _ (by repeat (first | exact Below.refl _ _ | assumption | refine bal ?_ _ | refine bdr ?_ | refine bdrn ?_ _ | (refine bset ?_ (by first | exact Nat.le_refl _ | (simp; done) | (simp; omega) | omega) _) | refine bstep ?_ (by assumption)))).mono ?_
    rintro e w1 ⟨rfl, hb1⟩
    obtain ⟨hc1, hf1⟩ := bcell hb1
    have hz1 := hb1.size
    try simp at hz1
    dsimp only
    have hw1 : Below w.heap.size w w1 := (by repeat (first | exact Below.refl _ _ | assumption | refine bal ?_ _ | refine bdr ?_ | refine bdrn ?_ _ | (refine bset ?_ (by first | exact Nat.le_refl _ | (simp; done) | (simp; omega) | omega) _) | refine bstep ?_ (by assumption)))
    have hwb : Below b w w1 := hw1.mono (Nat.le_of_lt hlt)
    have hP1 := pg_below HPg.out hw1
    have ho1 := oth_below b hw1
    have hbp := (hb1.block w.heap.size (by simp; omega)).trans ((RowKit.Below.heap_alloc _ _ _ (by simp)).trans (heap_alloc_new w _))
    have hbn := (hb1.block (w.heap.size + 1) (by simp)).trans (allocs_new w _ _)
    have cP := (cells_at hbp).1 0
    have cN := (cells_at hbn).1
    simp only [List.getElem?_toArray, List.getElem?_cons_zero] at cP
    have qb1 := pg_lt hP1
    have hwbd : Below b w w1.drew := hwb.trans ((drew_below w1).mono (Nat.le_of_lt qb1))
    have hod : Oth b w w1.drew := ho1.trans (oth_below b (drew_below w1))
    have qP : w.heap.size < w1.heap.size := (Array.getElem?_eq_some_iff.1 hbp).1
    have qN : w.heap.size + 1 < w1.heap.size := (Array.getElem?_eq_some_iff.1 hbn).1
    have HBP := Lib.hid hbp
    have HBN := Lib.hid hbn
    clear hbp hbn HQ HWD
    repeat (first | go_values | go_skip | go_guarded | go_step | go_upon)
    go_region_with (go_at_call 15; refine (pg_ws b A t _ (pg_below hP1 (by repeat (first | exact Below.refl _ _ | assumption | refine bal ?_ _ | refine bdr ?_ | refine bdrn ?_ _ | (refine bset ?_ (by first | exact Nat.le_refl _ | (simp; done) | (simp; omega) | omega) _) | refine bstep ?_ (by assumption)))) (by omega)).mono ?_; rintro e w2 ⟨rfl, hB2, hb2, ho2⟩; try dsimp only)
    all_goals (first | go_end0 | go_ret | (refine bodyPost_ret (v := .tuple #[]) (by rfl) rfl ?_))
    all_goals (exact ⟨rfl, A ++ t, Wr.put A _, by simp; omega, hB2, hwbd.trans hb2, hod.trans ho2⟩)
set_option maxRecDepth 100000 in
set_option maxHeartbeats 6400000 in
theorem expr_k2 {p : Int} {t : List UInt8} {c : BitVec 256} {a : Option Addr} {n cap : Nat} (b : Nat) (A : List UInt8) (w : World) (hp : Pg b b (Lib.byteCells A) w) (hA : A.length ≤ 99999999997000) (ht : t.length ≤ 255) :
    Calls Tryd.prog 16 #[.pointer (some ⟨b, 0, none⟩), .agg (trC 2 t c (.slice a n cap) p).toArray] w (PgP b A (quoted t) 1022 w) := by
  have hlt := pg_lt hp
  have hm1 := cell_alloc_lt
  have HPg := Lib.hid hp
  have HWD := Lib.hid (fun (q : Bool) (hq : decide (8192 < A.length) = q) (w' : World) (h : Below w.heap.size w w') => wide_any b A q hq w' (pg_below hp h))
  have HQU := Lib.hid (fun w => quote_any (mkS t) w (by rw [mkS_size]; omega))
  rw [mkS_bl'] at HQU
  have hql := quoted_le t
  clear hp
  dsimp only [trC]
  by_cases hw : 8192 < A.length
  · have HQ := Lib.hid (HWD.out true (decide_eq_true hw))
    go_enter Tryd.func16, Tryd.ntmps16
    repeat (first | go_values | go_skip | go_guarded | go_step | go_upon)
    refine (HQ.out _ (by repeat (first | exact Below.refl _ _ | assumption | refine bal ?_ _ | refine bdr ?_ | refine bdrn ?_ _ | (refine bset ?_ (by first | exact Nat.le_refl _ | (simp; done) | (simp; omega) | omega) _) | refine bstep ?_ (by assumption)))).mono ?_
    rintro e w1 ⟨rfl, hb1⟩
    obtain ⟨hc1, hf1⟩ := bcell hb1
    have hz1 := hb1.size
    try simp at hz1
    dsimp only
    have hw1 : Below w.heap.size w w1 := (by repeat (first | exact Below.refl _ _ | assumption | refine bal ?_ _ | refine bdr ?_ | refine bdrn ?_ _ | (refine bset ?_ (by first | exact Nat.le_refl _ | (simp; done) | (simp; omega) | omega) _) | refine bstep ?_ (by assumption)))
    repeat (first | go_values | go_skip | go_guarded | go_step | go_upon)
    first | go_end0 | go_ret | (refine bodyPost_ret (v := .tuple #[]) (by rfl) rfl ?_)
    exact ⟨rfl, A, Wr.wide hw, by omega, pg_below HPg.out hw1, hw1.mono (Nat.le_of_lt hlt), oth_below b hw1⟩
  · have HQ := Lib.hid (HWD.out false (decide_eq_false hw))
    clear hw
    go_enter Tryd.func16, Tryd.ntmps16
    repeat (first | go_values | go_skip | go_guarded | go_step | go_upon)
    refine (HQ.out _ (by repeat (first | exact Below.refl _ _ | assumption | refine bal ?_ _ | refine bdr ?_ | refine bdrn ?_ _ | (refine bset ?_ (by first | exact Nat.le_refl _ | (simp; done) | (simp; omega) | omega) _) | refine bstep ?_ (by assumption)))).mono ?_
    rintro e w1 ⟨rfl, hb1⟩
    obtain ⟨hc1, hf1⟩ := bcell hb1
    have hz1 := hb1.size
    try simp at hz1
    dsimp only
    have hw1 : Below w.heap.size w w1 := (by repeat (first | exact Below.refl _ _ | assumption | refine bal ?_ _ | refine bdr ?_ | refine bdrn ?_ _ | (refine bset ?_ (by first | exact Nat.le_refl _ | (simp; done) | (simp; omega) | omega) _) | refine bstep ?_ (by assumption)))
    have hwb : Below b w w1 := hw1.mono (Nat.le_of_lt hlt)
    have hP1 := pg_below HPg.out hw1
    have ho1 := oth_below b hw1
    have hbp := (hb1.block w.heap.size (by simp; omega)).trans ((RowKit.Below.heap_alloc _ _ _ (by simp)).trans (heap_alloc_new w _))
    have hbn := (hb1.block (w.heap.size + 1) (by simp)).trans (allocs_new w _ _)
    have cP := (cells_at hbp).1 0
    have cN := (cells_at hbn).1
    simp only [List.getElem?_toArray, List.getElem?_cons_zero] at cP
    have qb1 := pg_lt hP1
    have hwbd : Below b w w1.drew := hwb.trans ((drew_below w1).mono (Nat.le_of_lt qb1))
    have hod : Oth b w w1.drew := ho1.trans (oth_below b (drew_below w1))
    have qP : w.heap.size < w1.heap.size := (Array.getElem?_eq_some_iff.1 hbp).1
    have qN : w.heap.size + 1 < w1.heap.size := (Array.getElem?_eq_some_iff.1 hbn).1
    have HBP := Lib.hid hbp
    have HBN := Lib.hid hbn
    clear hbp hbn HQ HWD
    repeat (first | go_values | go_skip | go_guarded | go_step | go_upon)
    go_region_with (first | (go_at_call 31; refine (HQU.out _).mono ?_; rintro e w3 ⟨rfl, hb3⟩; have cP3 := (hb3.cell (p := ⟨w.heap.size, 0, none⟩) qP).trans cP; have hP3 := pg_below (pg_below hP1 (drew_below w1)) hb3; try dsimp only) | (go_at_call 15; refine (pg_ws b A (quoted t) _ hP3 (by omega)).mono ?_; rintro e w2 ⟨rfl, hB2, hb2, ho2⟩; try dsimp only))
    all_goals (first | go_end0 | go_ret | (refine bodyPost_ret (v := .tuple #[]) (by rfl) rfl ?_))
    all_goals (exact ⟨rfl, A ++ (quoted t), Wr.put A _, by rw [List.length_append]; omega, hB2, hwbd.trans ((hb3.mono (Nat.le_of_lt qb1)).trans hb2), hod.trans ((oth_below b hb3).trans ho2)⟩)
set_option maxRecDepth 100000 in
set_option maxHeartbeats 6400000 in
theorem expr_k3 {p : Int} {t : List UInt8} {c : BitVec 256} {a : Option Addr} {n cap : Nat} (b : Nat) (A : List UInt8) (w : World) (hp : Pg b b (Lib.byteCells A) w) (hA : A.length ≤ 99999999997000) :
    Calls Tryd.prog 16 #[.pointer (some ⟨b, 0, none⟩), .agg (trC 3 t c (.slice a n cap) p).toArray] w (PgP b A (txt c) 2400 w) := by
  have hlt := pg_lt hp
  have hm1 := cell_alloc_lt
  have HPg := Lib.hid hp
  have HWD := Lib.hid (fun (q : Bool) (hq : decide (8192 < A.length) = q) (w' : World) (h : Below w.heap.size w w') => wide_any b A q hq w' (pg_below hp h))
  have HQU := Lib.hid (fun w => text_any c w)
  have hql := txt_le c
  clear hp
  dsimp only [trC]
  by_cases hw : 8192 < A.length
  · have HQ := Lib.hid (HWD.out true (decide_eq_true hw))
    go_enter Tryd.func16, Tryd.ntmps16
    repeat (first | go_values | go_skip | go_guarded | go_step | go_upon)
    refine (HQ.out _ (by repeat (first | exact Below.refl _ _ | assumption | refine bal ?_ _ | refine bdr ?_ | refine bdrn ?_ _ | (refine bset ?_ (by first | exact Nat.le_refl _ | (simp; done) | (simp; omega) | omega) _) | refine bstep ?_ (by assumption)))).mono ?_
    rintro e w1 ⟨rfl, hb1⟩
    obtain ⟨hc1, hf1⟩ := bcell hb1
    have hz1 := hb1.size
    try simp at hz1
    dsimp only
    have hw1 : Below w.heap.size w w1 := (by repeat (first | exact Below.refl _ _ | assumption | refine bal ?_ _ | refine bdr ?_ | refine bdrn ?_ _ | (refine bset ?_ (by first | exact Nat.le_refl _ | (simp; done) | (simp; omega) | omega) _) | refine bstep ?_ (by assumption)))
    repeat (first | go_values | go_skip | go_guarded | go_step | go_upon)
    first | go_end0 | go_ret | (refine bodyPost_ret (v := .tuple #[]) (by rfl) rfl ?_)
    exact ⟨rfl, A, Wr.wide hw, by omega, pg_below HPg.out hw1, hw1.mono (Nat.le_of_lt hlt), oth_below b hw1⟩
  · have HQ := Lib.hid (HWD.out false (decide_eq_false hw))
    clear hw
    go_enter Tryd.func16, Tryd.ntmps16
    repeat (first | go_values | go_skip | go_guarded | go_step | go_upon)
    refine (HQ.out _ (by repeat (first | exact Below.refl _ _ | assumption | refine bal ?_ _ | refine bdr ?_ | refine bdrn ?_ _ | (refine bset ?_ (by first | exact Nat.le_refl _ | (simp; done) | (simp; omega) | omega) _) | refine bstep ?_ (by assumption)))).mono ?_
    rintro e w1 ⟨rfl, hb1⟩
    obtain ⟨hc1, hf1⟩ := bcell hb1
    have hz1 := hb1.size
    try simp at hz1
    dsimp only
    have hw1 : Below w.heap.size w w1 := (by repeat (first | exact Below.refl _ _ | assumption | refine bal ?_ _ | refine bdr ?_ | refine bdrn ?_ _ | (refine bset ?_ (by first | exact Nat.le_refl _ | (simp; done) | (simp; omega) | omega) _) | refine bstep ?_ (by assumption)))
    have hwb : Below b w w1 := hw1.mono (Nat.le_of_lt hlt)
    have hP1 := pg_below HPg.out hw1
    have ho1 := oth_below b hw1
    have hbp := (hb1.block w.heap.size (by simp; omega)).trans ((RowKit.Below.heap_alloc _ _ _ (by simp)).trans (heap_alloc_new w _))
    have hbn := (hb1.block (w.heap.size + 1) (by simp)).trans (allocs_new w _ _)
    have cP := (cells_at hbp).1 0
    have cN := (cells_at hbn).1
    simp only [List.getElem?_toArray, List.getElem?_cons_zero] at cP
    have qb1 := pg_lt hP1
    have hwbd : Below b w w1.drew := hwb.trans ((drew_below w1).mono (Nat.le_of_lt qb1))
    have hod : Oth b w w1.drew := ho1.trans (oth_below b (drew_below w1))
    have qP : w.heap.size < w1.heap.size := (Array.getElem?_eq_some_iff.1 hbp).1
    have qN : w.heap.size + 1 < w1.heap.size := (Array.getElem?_eq_some_iff.1 hbn).1
    have HBP := Lib.hid hbp
    have HBN := Lib.hid hbn
    clear hbp hbn HQ HWD
    repeat (first | go_values | go_skip | go_guarded | go_step | go_upon)
    go_region_with (first | (go_at_call 32; refine (HQU.out _).mono ?_; rintro e w3 ⟨rfl, hb3⟩; have cP3 := (hb3.cell (p := ⟨w.heap.size, 0, none⟩) qP).trans cP; have hP3 := pg_below (pg_below hP1 (drew_below w1)) hb3; try dsimp only) | (go_at_call 15; refine (pg_ws b A (txt c) _ hP3 (by omega)).mono ?_; rintro e w2 ⟨rfl, hB2, hb2, ho2⟩; try dsimp only))
    all_goals (first | go_end0 | go_ret | (refine bodyPost_ret (v := .tuple #[]) (by rfl) rfl ?_))
    all_goals (exact ⟨rfl, A ++ (txt c), Wr.put A _, by rw [List.length_append]; omega, hB2, hwbd.trans ((hb3.mono (Nat.le_of_lt qb1)).trans hb2), hod.trans ((oth_below b hb3).trans ho2)⟩)
end Go.Proofs.YteohgaheockepaaDoor
namespace Go.Proofs.YteohgaheockepaaDoor
open Go.RowKit Go.Sort

set_option maxRecDepth 100000 in
set_option maxHeartbeats 6400000 in
theorem expr_k7 {p : Int} {t : List UInt8} {c : BitVec 256} {a : Option Addr} {n cap : Nat} (b : Nat) (A : List UInt8) (w : World) (hp : Pg b b (Lib.byteCells A) w) (_ : A.length ≤ 99999999997000) {P : Nat → Prop} {l : List Tr} (_ : l.length = n) (IH : ∀ m ∈ l, ExprC m) (ho : ∀ m ∈ l, OkT m) (hl : RepL w P l (.slice a n cap)) (hP : ∀ x, P x → x < b) (hbk : A.length + 3000 * Tr.bulks l ≤ 99999999997000) :
    Calls Tryd.prog 16 #[.pointer (some ⟨b, 0, none⟩), .agg (trC 7 t c (.slice a n cap) p).toArray] w (PgP b A (rowTx [32, 47, 32] 1 l) (3000 * Tr.bulks l) w) := by
  have hlt := pg_lt hp
  have hm1 := cell_alloc_lt
  have HPg := Lib.hid hp
  have HWD := Lib.hid (fun (q : Bool) (hq : decide (8192 < A.length) = q) (w' : World) (h : Below w.heap.size w w') => wide_any b A q hq w' (pg_below hp h))
  have HI := Lib.hid IH
  have HO := Lib.hid ho
  have HL := Lib.hid hl
  have HP := Lib.hid hP
  have HBK := Lib.hid hbk
  clear IH ho hl hP hbk
  clear hp
  dsimp only [trC]
  by_cases hw : 8192 < A.length
  · have HQ := Lib.hid (HWD.out true (decide_eq_true hw))
    go_enter Tryd.func16, Tryd.ntmps16
    repeat (first | go_values | go_skip | go_guarded | go_step | go_upon)
    refine (HQ.out _ (by repeat (first | exact Below.refl _ _ | assumption | refine bal ?_ _ | refine bdr ?_ | refine bdrn ?_ _ | (refine bset ?_ (by first | exact Nat.le_refl _ | (simp; done) | (simp; omega) | omega) _) | refine bstep ?_ (by assumption)))).mono ?_
    rintro e w1 ⟨rfl, hb1⟩
    obtain ⟨hc1, hf1⟩ := bcell hb1
    have hz1 := hb1.size
    try simp at hz1
    dsimp only
    have hw1 : Below w.heap.size w w1 := (by repeat (first | exact Below.refl _ _ | assumption | refine bal ?_ _ | refine bdr ?_ | refine bdrn ?_ _ | (refine bset ?_ (by first | exact Nat.le_refl _ | (simp; done) | (simp; omega) | omega) _) | refine bstep ?_ (by assumption)))
    repeat (first | go_values | go_skip | go_guarded | go_step | go_upon)
    first | go_end0 | go_ret | (refine bodyPost_ret (v := .tuple #[]) (by rfl) rfl ?_)
    exact ⟨rfl, A, Wr.wide hw, by omega, pg_below HPg.out hw1, hw1.mono (Nat.le_of_lt hlt), oth_below b hw1⟩
  · have HQ := Lib.hid (HWD.out false (decide_eq_false hw))
    clear hw
    go_enter Tryd.func16, Tryd.ntmps16
    repeat (first | go_values | go_skip | go_guarded | go_step | go_upon)
    refine (HQ.out _ (by repeat (first | exact Below.refl _ _ | assumption | refine bal ?_ _ | refine bdr ?_ | refine bdrn ?_ _ | (refine bset ?_ (by first | exact Nat.le_refl _ | (simp; done) | (simp; omega) | omega) _) | refine bstep ?_ (by assumption)))).mono ?_
    rintro e w1 ⟨rfl, hb1⟩
    obtain ⟨hc1, hf1⟩ := bcell hb1
    have hz1 := hb1.size
    try simp at hz1
    dsimp only
    have hw1 : Below w.heap.size w w1 := (by repeat (first | exact Below.refl _ _ | assumption | refine bal ?_ _ | refine bdr ?_ | refine bdrn ?_ _ | (refine bset ?_ (by first | exact Nat.le_refl _ | (simp; done) | (simp; omega) | omega) _) | refine bstep ?_ (by assumption)))
    have hwb : Below b w w1 := hw1.mono (Nat.le_of_lt hlt)
    have hP1 := pg_below HPg.out hw1
    have ho1 := oth_below b hw1
    have hbp := (hb1.block w.heap.size (by simp; omega)).trans ((RowKit.Below.heap_alloc _ _ _ (by simp)).trans (heap_alloc_new w _))
    have hbn := (hb1.block (w.heap.size + 1) (by simp)).trans (allocs_new w _ _)
    have cP := (cells_at hbp).1 0
    have cN := (cells_at hbn).1
    simp only [List.getElem?_toArray, List.getElem?_cons_zero] at cP
    have qb1 := pg_lt hP1
    have hwbd : Below b w w1.drew := hwb.trans ((drew_below w1).mono (Nat.le_of_lt qb1))
    have hod : Oth b w w1.drew := ho1.trans (oth_below b (drew_below w1))
    have qP : w.heap.size < w1.heap.size := (Array.getElem?_eq_some_iff.1 hbp).1
    have qN : w.heap.size + 1 < w1.heap.size := (Array.getElem?_eq_some_iff.1 hbn).1
    have HBP := Lib.hid hbp
    have HBN := Lib.hid hbn
    clear hbp hbn HQ HWD
    repeat (first | go_values | go_skip | go_guarded | go_step | go_upon)
    refine (prow_any HI.out HO.out [32, 47, 32] (by decide) 1 b _ _ A w1 P HBN.out HBP.out (by omega) (by omega) (HL.out.mono (fun y hy => hwb.block y (HP.out y hy)) (fun _ h => h)) HP.out hP1 (by have := HBK.out; omega)).mono ?_
    rintro e w2 ⟨rfl, A', h1, h2, h3, h4, h5⟩
    dsimp only
    repeat (first | go_values | go_skip | go_guarded | go_step | go_upon)
    first | go_end0 | go_ret | (refine bodyPost_ret (v := .tuple #[]) (by rfl) rfl ?_)
    exact ⟨rfl, A', h1, by omega, h3, hwb.trans h4, ho1.trans h5⟩
set_option maxRecDepth 100000 in
set_option maxHeartbeats 6400000 in
theorem expr_k6 {p : Int} {t : List UInt8} {c : BitVec 256} {a : Option Addr} {n cap : Nat} (b : Nat) (A : List UInt8) (w : World) (hp : Pg b b (Lib.byteCells A) w) (_ : A.length ≤ 99999999997000) {P : Nat → Prop} {l : List Tr} (_ : l.length = n) (IH : ∀ m ∈ l, ExprC m) (ho : ∀ m ∈ l, OkT m) (hl : RepL w P l (.slice a n cap)) (hP : ∀ x, P x → x < b) (hbk : A.length + 3000 * Tr.bulks l ≤ 99999999997000) :
    Calls Tryd.prog 16 #[.pointer (some ⟨b, 0, none⟩), .agg (trC 6 t c (.slice a n cap) p).toArray] w (PgP b A (rowTx [32] 2 l) (3000 * Tr.bulks l) w) := by
  have hlt := pg_lt hp
  have hm1 := cell_alloc_lt
  have HPg := Lib.hid hp
  have HWD := Lib.hid (fun (q : Bool) (hq : decide (8192 < A.length) = q) (w' : World) (h : Below w.heap.size w w') => wide_any b A q hq w' (pg_below hp h))
  have HI := Lib.hid IH
  have HO := Lib.hid ho
  have HL := Lib.hid hl
  have HP := Lib.hid hP
  have HBK := Lib.hid hbk
  clear IH ho hl hP hbk
  clear hp
  dsimp only [trC]
  by_cases hw : 8192 < A.length
  · have HQ := Lib.hid (HWD.out true (decide_eq_true hw))
    go_enter Tryd.func16, Tryd.ntmps16
    repeat (first | go_values | go_skip | go_guarded | go_step | go_upon)
    refine (HQ.out _ (by repeat (first | exact Below.refl _ _ | assumption | refine bal ?_ _ | refine bdr ?_ | refine bdrn ?_ _ | (refine bset ?_ (by first | exact Nat.le_refl _ | (simp; done) | (simp; omega) | omega) _) | refine bstep ?_ (by assumption)))).mono ?_
    rintro e w1 ⟨rfl, hb1⟩
    obtain ⟨hc1, hf1⟩ := bcell hb1
    have hz1 := hb1.size
    try simp at hz1
    dsimp only
    have hw1 : Below w.heap.size w w1 := (by repeat (first | exact Below.refl _ _ | assumption | refine bal ?_ _ | refine bdr ?_ | refine bdrn ?_ _ | (refine bset ?_ (by first | exact Nat.le_refl _ | (simp; done) | (simp; omega) | omega) _) | refine bstep ?_ (by assumption)))
    repeat (first | go_values | go_skip | go_guarded | go_step | go_upon)
    first | go_end0 | go_ret | (refine bodyPost_ret (v := .tuple #[]) (by rfl) rfl ?_)
    exact ⟨rfl, A, Wr.wide hw, by omega, pg_below HPg.out hw1, hw1.mono (Nat.le_of_lt hlt), oth_below b hw1⟩
  · have HQ := Lib.hid (HWD.out false (decide_eq_false hw))
    clear hw
    go_enter Tryd.func16, Tryd.ntmps16
    repeat (first | go_values | go_skip | go_guarded | go_step | go_upon)
    refine (HQ.out _ (by repeat (first | exact Below.refl _ _ | assumption | refine bal ?_ _ | refine bdr ?_ | refine bdrn ?_ _ | (refine bset ?_ (by first | exact Nat.le_refl _ | (simp; done) | (simp; omega) | omega) _) | refine bstep ?_ (by assumption)))).mono ?_
    rintro e w1 ⟨rfl, hb1⟩
    obtain ⟨hc1, hf1⟩ := bcell hb1
    have hz1 := hb1.size
    try simp at hz1
    dsimp only
    have hw1 : Below w.heap.size w w1 := (by repeat (first | exact Below.refl _ _ | assumption | refine bal ?_ _ | refine bdr ?_ | refine bdrn ?_ _ | (refine bset ?_ (by first | exact Nat.le_refl _ | (simp; done) | (simp; omega) | omega) _) | refine bstep ?_ (by assumption)))
    have hwb : Below b w w1 := hw1.mono (Nat.le_of_lt hlt)
    have hP1 := pg_below HPg.out hw1
    have ho1 := oth_below b hw1
    have hbp := (hb1.block w.heap.size (by simp; omega)).trans ((RowKit.Below.heap_alloc _ _ _ (by simp)).trans (heap_alloc_new w _))
    have hbn := (hb1.block (w.heap.size + 1) (by simp)).trans (allocs_new w _ _)
    have cP := (cells_at hbp).1 0
    have cN := (cells_at hbn).1
    simp only [List.getElem?_toArray, List.getElem?_cons_zero] at cP
    have qb1 := pg_lt hP1
    have hwbd : Below b w w1.drew := hwb.trans ((drew_below w1).mono (Nat.le_of_lt qb1))
    have hod : Oth b w w1.drew := ho1.trans (oth_below b (drew_below w1))
    have qP : w.heap.size < w1.heap.size := (Array.getElem?_eq_some_iff.1 hbp).1
    have qN : w.heap.size + 1 < w1.heap.size := (Array.getElem?_eq_some_iff.1 hbn).1
    have HBP := Lib.hid hbp
    have HBN := Lib.hid hbn
    clear hbp hbn HQ HWD
    repeat (first | go_values | go_skip | go_guarded | go_step | go_upon)
    refine (prow_any HI.out HO.out [32] (by decide) 2 b _ _ A w1 P HBN.out HBP.out (by omega) (by omega) (HL.out.mono (fun y hy => hwb.block y (HP.out y hy)) (fun _ h => h)) HP.out hP1 (by have := HBK.out; omega)).mono ?_
    rintro e w2 ⟨rfl, A', h1, h2, h3, h4, h5⟩
    dsimp only
    repeat (first | go_values | go_skip | go_guarded | go_step | go_upon)
    first | go_end0 | go_ret | (refine bodyPost_ret (v := .tuple #[]) (by rfl) rfl ?_)
    exact ⟨rfl, A', h1, by omega, h3, hwb.trans h4, ho1.trans h5⟩
set_option maxRecDepth 100000 in
set_option maxHeartbeats 6400000 in
theorem expr_k11 {p : Int} {t : List UInt8} {c : BitVec 256} {a : Option Addr} {n cap : Nat} (b : Nat) (A : List UInt8) (w : World) (hp : Pg b b (Lib.byteCells A) w) (hA : A.length ≤ 99999999997000) {P : Nat → Prop} {l : List Tr} (_ : l.length = n) (IH : ∀ m ∈ l, ExprC m) (ho : ∀ m ∈ l, OkT m) (hl : RepL w P l (.slice a n cap)) (hP : ∀ x, P x → x < b) (hbk : A.length + 3000 * Tr.bulks l ≤ 99999999997000) :
    Calls Tryd.prog 16 #[.pointer (some ⟨b, 0, none⟩), .agg (trC 11 t c (.slice a n cap) p).toArray] w (PgP b A ([38] ++ rowTx [] 3 l) (3000 * Tr.bulks l + 1) w) := by
  have hlt := pg_lt hp
  have hm1 := cell_alloc_lt
  have HPg := Lib.hid hp
  have HWD := Lib.hid (fun (q : Bool) (hq : decide (8192 < A.length) = q) (w' : World) (h : Below w.heap.size w w') => wide_any b A q hq w' (pg_below hp h))
  have HI := Lib.hid IH
  have HO := Lib.hid ho
  have HL := Lib.hid hl
  have HP := Lib.hid hP
  have HBK := Lib.hid hbk
  clear IH ho hl hP hbk
  clear hp
  dsimp only [trC]
  by_cases hw : 8192 < A.length
  · have HQ := Lib.hid (HWD.out true (decide_eq_true hw))
    go_enter Tryd.func16, Tryd.ntmps16
    repeat (first | go_values | go_skip | go_guarded | go_step | go_upon)
    refine (HQ.out _ (by repeat (first | exact Below.refl _ _ | assumption | refine bal ?_ _ | refine bdr ?_ | refine bdrn ?_ _ | (refine bset ?_ (by first | exact Nat.le_refl _ | (simp; done) | (simp; omega) | omega) _) | refine bstep ?_ (by assumption)))).mono ?_
    rintro e w1 ⟨rfl, hb1⟩
    obtain ⟨hc1, hf1⟩ := bcell hb1
    have hz1 := hb1.size
    try simp at hz1
    dsimp only
    have hw1 : Below w.heap.size w w1 := (by repeat (first | exact Below.refl _ _ | assumption | refine bal ?_ _ | refine bdr ?_ | refine bdrn ?_ _ | (refine bset ?_ (by first | exact Nat.le_refl _ | (simp; done) | (simp; omega) | omega) _) | refine bstep ?_ (by assumption)))
    repeat (first | go_values | go_skip | go_guarded | go_step | go_upon)
    first | go_end0 | go_ret | (refine bodyPost_ret (v := .tuple #[]) (by rfl) rfl ?_)
    exact ⟨rfl, A, Wr.wide hw, by omega, pg_below HPg.out hw1, hw1.mono (Nat.le_of_lt hlt), oth_below b hw1⟩
  · have HQ := Lib.hid (HWD.out false (decide_eq_false hw))
    clear hw
    go_enter Tryd.func16, Tryd.ntmps16
    repeat (first | go_values | go_skip | go_guarded | go_step | go_upon)
    refine (HQ.out _ (by repeat (first | exact Below.refl _ _ | assumption | refine bal ?_ _ | refine bdr ?_ | refine bdrn ?_ _ | (refine bset ?_ (by first | exact Nat.le_refl _ | (simp; done) | (simp; omega) | omega) _) | refine bstep ?_ (by assumption)))).mono ?_
    rintro e w1 ⟨rfl, hb1⟩
    obtain ⟨hc1, hf1⟩ := bcell hb1
    have hz1 := hb1.size
    try simp at hz1
    dsimp only
    have hw1 : Below w.heap.size w w1 := (by repeat (first | exact Below.refl _ _ | assumption | refine bal ?_ _ | refine bdr ?_ | refine bdrn ?_ _ | (refine bset ?_ (by first | exact Nat.le_refl _ | (simp; done) | (simp; omega) | omega) _) | refine bstep ?_ (by assumption)))
    have hwb : Below b w w1 := hw1.mono (Nat.le_of_lt hlt)
    have hP1 := pg_below HPg.out hw1
    have ho1 := oth_below b hw1
    have hbp := (hb1.block w.heap.size (by simp; omega)).trans ((RowKit.Below.heap_alloc _ _ _ (by simp)).trans (heap_alloc_new w _))
    have hbn := (hb1.block (w.heap.size + 1) (by simp)).trans (allocs_new w _ _)
    have cP := (cells_at hbp).1 0
    have cN := (cells_at hbn).1
    simp only [List.getElem?_toArray, List.getElem?_cons_zero] at cP
    have qb1 := pg_lt hP1
    have hwbd : Below b w w1.drew := hwb.trans ((drew_below w1).mono (Nat.le_of_lt qb1))
    have hod : Oth b w w1.drew := ho1.trans (oth_below b (drew_below w1))
    have qP : w.heap.size < w1.heap.size := (Array.getElem?_eq_some_iff.1 hbp).1
    have qN : w.heap.size + 1 < w1.heap.size := (Array.getElem?_eq_some_iff.1 hbn).1
    have HBP := Lib.hid hbp
    have HBN := Lib.hid hbn
    clear hbp hbn HQ HWD
    repeat (first | go_values | go_skip | go_guarded | go_step | go_upon)
    go_region_with (go_at_call 17; refine (pg_wb b A 38 38 _ rfl (pg_below hP1 (drew_below w1)) (by omega)).mono ?_; rintro e w2 ⟨rfl, hB2, hb2, ho2⟩; try dsimp only)
    all_goals (have HBN2 := Lib.hid (oth_cell ho2 (show w1.drew.heap[w.heap.size + 1]? = _ from HBN.out) (by omega) (by decide)); have HBP2 := Lib.hid (oth_cell ho2 (show w1.drew.heap[w.heap.size]? = _ from HBP.out) (by omega) (by decide)); have hw2 : Below b w w2 := hwbd.trans hb2)
    all_goals (repeat (first | go_values | go_skip | go_guarded | go_step | go_upon))
    all_goals (refine (prow_any HI.out HO.out [] (by decide) 3 b _ _ (A ++ [38]) w2 P HBN2.out HBP2.out (by omega) (by omega) (HL.out.mono (fun y hy => hw2.block y (HP.out y hy)) (fun _ h => h)) HP.out hB2 (by have := HBK.out; rw [List.length_append, List.length_singleton]; omega)).mono ?_)
    all_goals (rintro e w3 ⟨rfl, A', h1, h2, h3, h4, h5⟩)
    all_goals (rw [List.length_append, List.length_singleton] at h2; dsimp only)
    all_goals (repeat (first | go_values | go_skip | go_guarded | go_step | go_upon))
    all_goals (first | go_end0 | go_ret | (refine bodyPost_ret (v := .tuple #[]) (by rfl) rfl ?_))
    all_goals (exact ⟨rfl, A', (Wr.put A [38]).trans h1, by omega, h3, hw2.trans h4, hod.trans (ho2.trans h5)⟩)
end Go.Proofs.YteohgaheockepaaDoor
