/- printer.node and printer.rule tell whether a tree, a rule, may be printed. | printer.rule and the search for a rule that may not be printed. | printer.Print of any grammar. | printer.Print of a grammar that may be. | printer.Expr of any node. | The printer laws' small case: plain. -/
import Derived.Test.YteohgaheockepaaDoorG35
import Derived.Test.YteohgaheockepaaDoorG36
import Derived.Test.YteohgaheockepaaDoorG31
import Derived.Test.YteohgaheockepaaDoorG34
import Derived.Test.YteohgaheockepaaDoorG30
import Derived.Test.YteohgaheockepaaDoorG25
import Derived.Test.YteohgaheockepaaDoorG41
namespace Go.Proofs.YteohgaheockepaaDoor
open Go.RowKit Go.Sort

theorem node_step {k p : Int} {t : List UInt8} {c : BitVec 256} {a : Option Addr} {n cap : Nat} {q : Bool} (w : World) (ht : t.length ≤ 1000000000) (hmax : n ≤ 140737488355328)
    (HC : ∀ q2, q = !q2 → ∀ w', Below w.heap.size w w' → Calls Tryd.prog 44 #[.slice a n cap, .func (.func 45) #[] #[]] w' (Ans (.bool q2) w')) : Calls Tryd.prog 27 #[.agg (trC k t c (.slice a n cap) p).toArray] w (Ans (.bool (okH k t c n && q)) w) := by
  by_cases h3 : k = 3
  · subst h3; exact node_k3 w ht hmax HC
  by_cases hc : c = 0
  · by_cases h1 : k = 1
    · subst h1; exact node_k1 hc w ht hmax HC
    by_cases h2 : k = 2
    · subst h2; exact node_k2 hc w ht hmax HC
    by_cases h4 : k = 4
    · subst h4; exact node_k4 hc w ht hmax HC
    by_cases h5 : k = 5
    · subst h5; exact node_k5 hc w ht hmax HC
    by_cases h6 : k = 6
    · subst h6; exact node_k6 hc w ht hmax HC
    by_cases h7 : k = 7
    · subst h7; exact node_k7 hc w ht hmax HC
    by_cases h8 : k = 8
    · subst h8; exact node_k8 hc w ht hmax HC
    by_cases h9 : k = 9
    · subst h9; exact node_k9 hc w ht hmax HC
    by_cases h10 : k = 10
    · subst h10; exact node_k10 hc w ht hmax HC
    by_cases h11 : k = 11
    · subst h11; exact node_k11 hc w ht hmax HC
    by_cases h12 : k = 12
    · subst h12; exact node_k12 hc w ht hmax HC
    · exact node_ko hc h3 h1 h2 h4 h5 h6 h7 h8 h9 h10 h11 h12 w ht hmax HC
  · exact node_kc hc h3 w ht hmax HC
theorem bulks_len (l : List Tr) : l.length ≤ Tr.bulks l := by
  induction l with
  | nil => exact Nat.zero_le _
  | cons n l ih =>
    cases n
    rw [Tr.bulks, Tr.bulk, List.length_cons]
    omega
theorem node_size : ∀ (k : Nat) (n : Tr), SizeOf.sizeOf n ≤ k → NodeC n := by
  intro k
  induction k with
  | zero => intro n hn; cases n; simp at hn
  | succ k ih =>
    intro n hn w P c hr hP hb
    obtain ⟨kk, t, x, v, l, p, rfl, rfl, hl⟩ := hr.form
    obtain ⟨a, cap, rfl, hcap, _⟩ := hl.slice
    rw [Tr.bulk] at hb
    rw [okT]
    refine node_step w (by omega) (by have := bulks_len l; omega) (fun q2 hq w' h => ?_)
    have := contains_node w' (hl.mono (fun b hb => h.block b (hP b hb)) (fun _ h => h)) (fun b hb => Nat.lt_of_lt_of_le (hP b hb) h.size) (by omega) (fun m hm => ih m (by
      have e1 : SizeOf.sizeOf m < SizeOf.sizeOf l := List.sizeOf_lt_of_mem hm
      rw [Tr.mk.sizeOf_spec] at hn
      omega))
    rw [hq, Bool.not_not] at this
    exact this
theorem node_any (n : Tr) : NodeC n := node_size (SizeOf.sizeOf n) n (Nat.le_refl _)
end Go.Proofs.YteohgaheockepaaDoor
namespace Go.Proofs.YteohgaheockepaaDoor
open Go.RowKit Go.Sort

/-- The cells of a rule. -/
def ruC (r : Rr) (cs : List Value) : List Value := .string (mkS r.name) :: (cs ++ [.int .i64 r.pos])
set_option maxRecDepth 100000 in
set_option maxHeartbeats 3200000 in
theorem rule_any {r : Rr} (q : Bool) (hq : okU r = q) (w : World) (P : Nat → Prop) (cs : List Value) (hr : RepA w P r.body cs) (hP : ∀ b, P b → b < w.heap.size) (hb : r.bulk ≤ 1000000000) : Calls Tryd.prog 14 #[.agg (ruC r cs).toArray] w (Ans (.bool q) w) := by
  obtain ⟨nm, bd, pp⟩ := r
  obtain ⟨k, t, x, v, l, p, hbd, rfl, hl⟩ := hr.form
  rw [Rr.bulk] at hb
  dsimp only at hr hb hbd
  have HC := Lib.hid (fun (w' : World) (h : Below w.heap.size w w') => node_any bd w' P _ (hr.mono (fun b hb => h.block b (hP b hb)) (fun _ h => h)) (fun b hb => Nat.lt_of_lt_of_le (hP b hb) h.size) (by omega))
  have HN := Lib.hid (fun w => lName_any (mkS nm) w (by rw [mkS_size]; omega))
  rw [mkS_bl] at HN
  have hm1 := cell_alloc_lt
  obtain ⟨sa, cap, rfl, _⟩ := hl.slice
  rw [okU] at hq
  dsimp only at hq
  clear hr hP hl hbd
  dsimp only [trC, ruC, List.cons_append, List.nil_append] at HC ⊢
  cases e1 : isName nm with
  | true =>
    rw [e1] at HN hq
    rw [Bool.true_and] at hq
    rw [hq] at HC
    clear e1 hq hb
    cases q with
    | true =>
      go_enter Tryd.func14, Tryd.ntmps14
      repeat (first | go_values | go_skip | go_guarded | go_step | go_upon)
      refine (HN.out _).mono ?_
      rintro e w1 ⟨rfl, hb1⟩
      obtain ⟨hc1, hf1⟩ := bcell hb1
      have hz1 := hb1.size
      try simp at hz1
      dsimp only
      repeat (first | go_values | go_skip | go_guarded | go_step | go_upon)
      refine (HC.out _ (by repeat (first | exact Below.refl _ _ | assumption | refine bal ?_ _ | refine bdr ?_ | refine bdrn ?_ _ | (refine bset ?_ (by first | exact Nat.le_refl _ | (simp; done) | (simp; omega) | omega) _) | refine bstep ?_ (by assumption)))).mono ?_
      rintro e w2 ⟨rfl, hb2⟩
      obtain ⟨hc2, hf2⟩ := bcell hb2
      have hz2 := hb2.size
      try simp at hz2
      dsimp only
      repeat (first | go_values | go_skip | go_guarded | go_step | go_upon)
      go_ret
      exact ⟨rfl, (by repeat (first | exact Below.refl _ _ | assumption | refine bal ?_ _ | refine bdr ?_ | refine bdrn ?_ _ | (refine bset ?_ (by first | exact Nat.le_refl _ | (simp; done) | (simp; omega) | omega) _) | refine bstep ?_ (by assumption)))⟩
    | false =>
      go_enter Tryd.func14, Tryd.ntmps14
      repeat (first | go_values | go_skip | go_guarded | go_step | go_upon)
      refine (HN.out _).mono ?_
      rintro e w1 ⟨rfl, hb1⟩
      obtain ⟨hc1, hf1⟩ := bcell hb1
      have hz1 := hb1.size
      try simp at hz1
      dsimp only
      repeat (first | go_values | go_skip | go_guarded | go_step | go_upon)
      refine (HC.out _ (by repeat (first | exact Below.refl _ _ | assumption | refine bal ?_ _ | refine bdr ?_ | refine bdrn ?_ _ | (refine bset ?_ (by first | exact Nat.le_refl _ | (simp; done) | (simp; omega) | omega) _) | refine bstep ?_ (by assumption)))).mono ?_
      rintro e w2 ⟨rfl, hb2⟩
      obtain ⟨hc2, hf2⟩ := bcell hb2
      have hz2 := hb2.size
      try simp at hz2
      dsimp only
      repeat (first | go_values | go_skip | go_guarded | go_step | go_upon)
      go_ret
      exact ⟨rfl, (by repeat (first | exact Below.refl _ _ | assumption | refine bal ?_ _ | refine bdr ?_ | refine bdrn ?_ _ | (refine bset ?_ (by first | exact Nat.le_refl _ | (simp; done) | (simp; omega) | omega) _) | refine bstep ?_ (by assumption)))⟩
  | false =>
    rw [e1] at HN hq
    rw [Bool.false_and] at hq
    subst hq
    clear e1 hb HC
    go_enter Tryd.func14, Tryd.ntmps14
    repeat (first | go_values | go_skip | go_guarded | go_step | go_upon)
    refine (HN.out _).mono ?_
    rintro e w1 ⟨rfl, hb1⟩
    obtain ⟨hc1, hf1⟩ := bcell hb1
    have hz1 := hb1.size
    try simp at hz1
    dsimp only
    repeat (first | go_values | go_skip | go_guarded | go_step | go_upon)
    go_ret
    exact ⟨rfl, (by repeat (first | exact Below.refl _ _ | assumption | refine bal ?_ _ | refine bdr ?_ | refine bdrn ?_ _ | (refine bset ?_ (by first | exact Nat.le_refl _ | (simp; done) | (simp; omega) | omega) _) | refine bstep ?_ (by assumption)))⟩
set_option maxRecDepth 100000 in
set_option maxHeartbeats 3200000 in
theorem rule1_any {r : Rr} (q : Bool) (hq : okU r = !q) (w : World) (P : Nat → Prop) (cs : List Value) (hr : RepA w P r.body cs) (hP : ∀ b, P b → b < w.heap.size) (hb : r.bulk ≤ 1000000000) : Calls Tryd.prog 13 #[.agg (ruC r cs).toArray] w (Ans (.bool q) w) := by
  have HC := Lib.hid (fun (w' : World) (h : Below w.heap.size w w') => rule_any (!q) hq w' P _ (hr.mono (fun b hb => h.block b (hP b hb)) (fun _ h => h)) (fun b hb => Nat.lt_of_lt_of_le (hP b hb) h.size) hb)
  obtain ⟨nm, bd, pp⟩ := r
  obtain ⟨k, t, x, v, l, p, hbd, rfl, hl⟩ := hr.form
  have hm1 := cell_alloc_lt
  obtain ⟨sa, cap, rfl, _⟩ := hl.slice
  clear hr hP hl hbd hq hb
  dsimp only [trC, ruC, List.cons_append, List.nil_append] at HC ⊢
  cases q with
  | true =>
    go_enter Tryd.func13, Tryd.ntmps13
    repeat (first | go_values | go_skip | go_guarded | go_step | go_upon)
    refine (HC.out _ (by repeat (first | exact Below.refl _ _ | assumption | refine bal ?_ _ | refine bdr ?_ | refine bdrn ?_ _ | (refine bset ?_ (by first | exact Nat.le_refl _ | (simp; done) | (simp; omega) | omega) _) | refine bstep ?_ (by assumption)))).mono ?_
    rintro e w1 ⟨rfl, hb1⟩
    obtain ⟨hc1, hf1⟩ := bcell hb1
    have hz1 := hb1.size
    try simp at hz1
    dsimp only
    repeat (first | go_values | go_skip | go_guarded | go_step | go_upon)
    go_ret
    exact ⟨rfl, (by repeat (first | exact Below.refl _ _ | assumption | refine bal ?_ _ | refine bdr ?_ | refine bdrn ?_ _ | (refine bset ?_ (by first | exact Nat.le_refl _ | (simp; done) | (simp; omega) | omega) _) | refine bstep ?_ (by assumption)))⟩
  | false =>
    go_enter Tryd.func13, Tryd.ntmps13
    repeat (first | go_values | go_skip | go_guarded | go_step | go_upon)
    refine (HC.out _ (by repeat (first | exact Below.refl _ _ | assumption | refine bal ?_ _ | refine bdr ?_ | refine bdrn ?_ _ | (refine bset ?_ (by first | exact Nat.le_refl _ | (simp; done) | (simp; omega) | omega) _) | refine bstep ?_ (by assumption)))).mono ?_
    rintro e w1 ⟨rfl, hb1⟩
    obtain ⟨hc1, hf1⟩ := bcell hb1
    have hz1 := hb1.size
    try simp at hz1
    dsimp only
    repeat (first | go_values | go_skip | go_guarded | go_step | go_upon)
    go_ret
    exact ⟨rfl, (by repeat (first | exact Below.refl _ _ | assumption | refine bal ?_ _ | refine bdr ?_ | refine bdrn ?_ _ | (refine bset ?_ (by first | exact Nat.le_refl _ | (simp; done) | (simp; omega) | omega) _) | refine bstep ?_ (by assumption)))⟩
/-- The first of some rules that may not be printed; -1: none. -/
def badU : Nat → List Rr → Int
  | _, [] => -1
  | i, n :: l => if okU n = true then badU (i + 1) l else (i : Int)
theorem badU_sign : ∀ (l : List Rr) (i : Nat), decide (0 ≤ badU i l) = !l.all okU := by
  intro l
  induction l with
  | nil => intro i; rfl
  | cons n l ih =>
    intro i
    rw [badU, List.all_cons]
    split
    · next h => rw [ih, h]; rfl
    · next h =>
      have : okU n = false := by simpa using h
      rw [this]
      simp
theorem bulk_rule {l : List Rr} {n : Rr} (h : n ∈ l) : n.bulk ≤ Rr.bulks l := by
  induction l with
  | nil => cases h
  | cons m l ih =>
    rw [Rr.bulks]
    rcases List.mem_cons.1 h with rfl | h
    · omega
    · have := ih h; omega
set_option maxRecDepth 100000 in
set_option maxHeartbeats 3200000 in
theorem index_rule {l : List Rr} {v : Value} {P : Nat → Prop} (w : World) (hl : RepGr w P l v) (hP : ∀ b, P b → b < w.heap.size) (hb : Rr.bulks l ≤ 1000000000) : Calls Tryd.prog 25 #[v, .func (.func 13) #[] #[]] w (Ans (.int .i64 (badU 0 l)) w) := by
  obtain ⟨n, hn⟩ : ∃ n, n = l.length := ⟨_, rfl⟩
  obtain ⟨a, cap, rfl, hcap, hmax⟩ := hl.slice
  have HL := Lib.hid hl
  have HP := Lib.hid hP
  have HB := Lib.hid hb
  have hm1 := cell_alloc_lt
  rw [← hn] at hcap hmax ⊢
  have HN := Lib.hid hn
  unfold maxLen at hmax
  clear hl hP hb hn
  go_enter Tryd.func25, Tryd.ntmps25
  repeat (first | go_values | go_skip | go_guarded | go_step | go_upon)
  go_loopw [8] (fun tt wr => ∃ j : Nat, tt = .int .i64 (j : Int) ∧ j ≤ n ∧ Hid (badU 0 l = badU j (l.drop j)) ∧ Below w.heap.size w wr) (fun tt _ => n - (intOf tt).toNat)
  case atStart => exact ⟨0, rfl, Nat.zero_le _, Lib.hid rfl, Below.refl _ _⟩
  case round =>
    obtain ⟨j, rfl, hj, hbad, hbr⟩ := hrel
    by_cases hlt : j < n
    · have hlt2 : j < l.length := by rw [← HN.out]; exact hlt
      obtain ⟨y, hy⟩ : ∃ y, l[j]? = some y := ⟨l[j], List.getElem?_eq_getElem hlt2⟩
      have hmem := List.mem_of_getElem? hy
      have hdrop : l.drop j = y :: l.drop (j + 1) := by
        rw [List.drop_eq_getElem_cons hlt2]
        congr 1
        exact (List.getElem?_eq_some_iff.1 hy).2
      have hbd := bulk_rule hmem
      have h1 := hbad.out
      rw [hdrop, badU] at h1
      rcases HL.out.parts with ⟨e, _⟩ | ⟨e, _⟩ | ⟨g, o, cap', e, hg, _, _, _, hr⟩
      · rw [e] at hlt2; simp at hlt2
      · rw [e] at hlt2; simp at hlt2
      · obtain rfl : a = some ⟨g, o, none⟩ := by injection e
        have HW := Lib.hid hbr
        obtain ⟨k1, t1, x1, sa, sn, sc, p1, l1, _, q0, _, a9, a0, a1, a2, a3, a4, a5, a6, a7, a8⟩ := (hr.mono (w' := wr) (P' := P) (fun b hb => HW.out.block b (HP.out b hb)) (fun _ h => h) hg).get hy
        have HC := Lib.hid (fun q hq => rule1_any (r := y) q hq wr P _ q0 (fun b hb => Nat.lt_of_lt_of_le (HP.out b hb) hbr.size) (by have := HB.out; omega))
        have d1 : decide ((j : Int) < n) = true := by simpa using hlt
        have k5 : IntKind.i64.wrap ((j : Int) + 1) = (j : Int) + 1 := by rw [IntKind.wrap_i64]; omega
        obtain ⟨r, hr2⟩ : ∃ r, okU y = r := ⟨_, rfl⟩
        rw [hr2] at h1
        have HR := Lib.hid hr2
        have H1 := Lib.hid h1
        clear h1 hdrop hy hmem q0 hr e hbad hr2
        dsimp only [trC, ruC, List.cons_append, List.nil_append] at HC
        cases r with
        | true =>
          have H2 := Lib.hid (show badU 0 l = badU (j + 1) (l.drop (j + 1)) from H1.out)
          clear H1
          repeat (first | go_values | go_skip | go_guarded | go_step | go_upon)
          refine (HC.out false HR.out).mono ?_
          rintro e w1 ⟨rfl, hb1⟩
          dsimp only
          repeat (first | go_values | go_skip | go_guarded | go_step | go_upon)
          exact ⟨⟨j + 1, by go_num, by omega, H2, hbr.trans (hb1.mono hbr.size)⟩, by simp [intOf]; omega⟩
        | false =>
          have H2 := Lib.hid (show badU 0 l = (j : Int) from H1.out)
          clear H1
          repeat (first | go_values | go_skip | go_guarded | go_step | go_upon)
          refine (HC.out true HR.out).mono ?_
          rintro e w1 ⟨rfl, hb1⟩
          dsimp only
          repeat (first | go_values | go_skip | go_guarded | go_step | go_upon)
          go_ret
          exact ⟨by rw [H2.out]; rfl, hbr.trans (hb1.mono hbr.size)⟩
    · have d1 : decide (j < n) = false := by simpa using hlt
      have hjn : j = l.length := by rw [← HN.out]; omega
      have H2 := Lib.hid (show badU 0 l = -1 by rw [hbad.out, hjn, List.drop_length]; rfl)
      clear hlt hjn hbad
      repeat (first | go_values | go_skip | go_guarded | go_step | go_upon)
      go_ret
      exact ⟨by rw [H2.out]; rfl, hbr⟩
theorem contains_rule {l : List Rr} {v : Value} {P : Nat → Prop} (q : Bool) (hq : l.all okU = !q) (w : World) (hl : RepGr w P l v) (hP : ∀ b, P b → b < w.heap.size) (hb : Rr.bulks l ≤ 1000000000) : Calls Tryd.prog 12 #[v, .func (.func 13) #[] #[]] w (Ans (.bool q) w) := by
  have HC := Lib.hid (fun (w' : World) (h : Below w.heap.size w w') => index_rule w' (hl.mono (fun b hb => h.block b (hP b hb)) (fun _ h => h)) (fun b hb => Nat.lt_of_lt_of_le (hP b hb) h.size) hb)
  have hs := badU_sign l 0
  obtain ⟨i, hi⟩ : ∃ i, badU 0 l = i := ⟨_, rfl⟩
  rw [hi] at HC hs
  rw [hq, Bool.not_not] at hs
  rw [← hs]
  obtain ⟨a, cap, rfl, hcap, hmax⟩ := hl.slice
  generalize l.length = n at *
  clear hl hP hb hi hs hq
  go_enter Tryd.func12, Tryd.ntmps12
  repeat (first | go_values | go_skip | go_guarded | go_step | go_upon)
  refine (HC.out _ (by repeat (first | exact Below.refl _ _ | assumption | refine bal ?_ _ | refine bdr ?_ | refine bdrn ?_ _ | (refine bset ?_ (by first | exact Nat.le_refl _ | (simp; done) | (simp; omega) | omega) _) | refine bstep ?_ (by assumption)))).mono ?_
  rintro e w1 ⟨rfl, hb1⟩
  obtain ⟨hc1, hf1⟩ := bcell hb1
  have hz1 := hb1.size
  try simp at hz1
  dsimp only
  repeat (first | go_values | go_skip | go_guarded | go_step | go_upon)
  go_ret
  exact ⟨rfl, (by repeat (first | exact Below.refl _ _ | assumption | refine bal ?_ _ | refine bdr ?_ | refine bdrn ?_ _ | (refine bset ?_ (by first | exact Nat.le_refl _ | (simp; done) | (simp; omega) | omega) _) | refine bstep ?_ (by assumption)))⟩
end Go.Proofs.YteohgaheockepaaDoor
namespace Go.Proofs.YteohgaheockepaaDoor
open Go.RowKit Go.Sort

/-- What Print comes to: an error's number, or the text. -/
def PrRes (g : List Rr) (r : Nat ⊕ List UInt8) : Prop :=
  (okG g = false ∧ r = .inl 20) ∨ (okG g = true ∧ 8192 < (txG g).length ∧ r = .inl 2) ∨ (okG g = true ∧ (txG g).length ≤ 8192 ∧ ((∃ er, Reads (txG g) (.inl er) ∧ r = .inl 20) ∨ ∃ h, Reads (txG g) (.inr h) ∧ r = .inr (txG g)))
def prVal : Nat ⊕ List UInt8 → Value
  | .inl c => .tuple #[.string ⟨#[]⟩, .iface 47 (.int .i64 (c : Nat))]
  | .inr s => .tuple #[.string ⟨s.toArray⟩, .nilIface]
def PrP (g : List Rr) (w : World) (e : Ending) (w' : World) : Prop := (∃ r, PrRes g r ∧ e = .returned (prVal r)) ∧ Below w.heap.size w w'
set_option maxRecDepth 100000 in
set_option maxHeartbeats 6400000 in
/-- A grammar that may not be. -/
theorem print_bad {g : List Rr} {v : Value} {P : Nat → Prop} (w : World) (hr : RepGr w P g v) (hP : ∀ b, P b → b < w.heap.size) (hb : Rr.bulks g ≤ 1000000000) (hok : okG g = false) : Calls Tryd.prog 7 #[.agg #[v]] w (PrP g w) := by
  obtain ⟨n, hn⟩ : ∃ n, n = g.length := ⟨_, rfl⟩
  obtain ⟨a, cap, rfl, hcap, _⟩ := hr.slice
  have hm1 := cell_alloc_lt
  have HC := Lib.hid (fun (q : Bool) (hq : g.all okU = !q) (w' : World) (h : Below w.heap.size w w') => contains_rule q hq w' (hr.mono (fun b hb => h.block b (hP b hb)) (fun _ h => h)) (fun b hb => Nat.lt_of_lt_of_le (hP b hb) h.size) hb)
  have HF := Lib.hid (show ∀ w', Below w.heap.size w w' → PrP g w (.returned (prVal (.inl 20))) w' from fun w' h => ⟨⟨_, .inl ⟨hok, rfl⟩, rfl⟩, h⟩)
  rw [okG, ← hn] at hok
  rw [← hn] at HC ⊢
  have HN := Lib.hid hn
  clear hr hP hb hn
  by_cases h1 : n < 1
  · have d1 : decide ((n : Int) < 1) = true := by simp; omega
    clear hok HC
    go_enter Tryd.func7, Tryd.ntmps7
    repeat (first | go_values | go_skip | go_guarded | go_step | go_upon)
    go_ret2
    exact HF.out _ (by repeat (first | exact Below.refl _ _ | assumption | refine bal ?_ _ | refine bdr ?_ | refine bdrn ?_ _ | (refine bset ?_ (by first | exact Nat.le_refl _ | (simp; done) | (simp; omega) | omega) _) | refine bstep ?_ (by assumption)))
  · have d1 : decide ((n : Int) < 1) = false := by simp; omega
    by_cases h2 : 64 < n
    · have d2 : decide ((64 : Int) < n) = true := by simp; omega
      clear hok HC
      go_enter Tryd.func7, Tryd.ntmps7
      repeat (first | go_values | go_skip | go_guarded | go_step | go_upon)
      go_ret2
      exact HF.out _ (by repeat (first | exact Below.refl _ _ | assumption | refine bal ?_ _ | refine bdr ?_ | refine bdrn ?_ _ | (refine bset ?_ (by first | exact Nat.le_refl _ | (simp; done) | (simp; omega) | omega) _) | refine bstep ?_ (by assumption)))
    · have d2 : decide ((64 : Int) < n) = false := by simp; omega
      have hall : g.all okU = !true := by
        have e1 : decide (1 ≤ n) = true := by simp; omega
        have e2 : decide (n ≤ 64) = true := by simp; omega
        rw [e1, e2] at hok
        simpa using hok
      have HQ := Lib.hid (HC.out true hall)
      clear hok HC hall
      go_enter Tryd.func7, Tryd.ntmps7
      repeat (first | go_values | go_skip | go_guarded | go_step | go_upon)
      refine (HQ.out _ (by repeat (first | exact Below.refl _ _ | assumption | refine bal ?_ _ | refine bdr ?_ | refine bdrn ?_ _ | (refine bset ?_ (by first | exact Nat.le_refl _ | (simp; done) | (simp; omega) | omega) _) | refine bstep ?_ (by assumption)))).mono ?_
      rintro e w1 ⟨rfl, hb1⟩
      obtain ⟨hc1, hf1⟩ := bcell hb1
      have hz1 := hb1.size
      try simp at hz1
      dsimp only
      repeat (first | go_values | go_skip | go_guarded | go_step | go_upon)
      go_ret2
      exact HF.out _ (by repeat (first | exact Below.refl _ _ | assumption | refine bal ?_ _ | refine bdr ?_ | refine bdrn ?_ _ | (refine bset ?_ (by first | exact Nat.le_refl _ | (simp; done) | (simp; omega) | omega) _) | refine bstep ?_ (by assumption)))
end Go.Proofs.YteohgaheockepaaDoor
namespace Go.Proofs.YteohgaheockepaaDoor
open Go.RowKit Go.Sort

theorem txG_snoc (l : List Rr) (r : Rr) : txG (l ++ [r]) = txG l ++ txU r := by
  induction l with
  | nil => simp [txG]
  | cons m l ih => simp [txG, ih]
theorem txG_take (l : List Rr) (j : Nat) : (txG (l.take j)).length ≤ (txG l).length := by
  induction l generalizing j with
  | nil => simp
  | cons m l ih =>
    cases j with
    | zero => simp [txG]
    | succ j =>
      have := ih j
      simp only [List.take_succ_cons, txG, List.length_append]
      omega
theorem take_snocR {l : List Rr} {j : Nat} {y : Rr} (h : l[j]? = some y) : l.take (j + 1) = l.take j ++ [y] := by
  rw [List.take_add_one, h]
  rfl
/-- What stands behind j rules. -/
def PrJ (b : Nat) (g : List Rr) (W : World) (j : Nat) (wr : World) : Prop := ∃ A : List UInt8, Wr [] (txG (g.take j)) A ∧ A.length ≤ 8192 ∧ Pg b b (Lib.byteCells A) wr ∧ Below b W wr
theorem pg_ws2 (b : Nat) (A S : List UInt8) (s : ByteArray) (hs : s = ⟨S.toArray⟩) (w : World) (h : Pg b b (Lib.byteCells A) w) (hl : A.length + S.length ≤ 140000000000000) :
    Calls Tryd.prog 15 #[.pointer (some ⟨b, 0, none⟩), .string s] w fun e w' => e = .returned (.tuple #[.int .i64 (S.length : Nat), .nilIface]) ∧ Pg b b (Lib.byteCells (A ++ S)) w' ∧ Below b w w' ∧ Oth b w w' := by
  subst hs
  exact pg_ws b A S w h hl
set_option maxRecDepth 100000 in
set_option maxHeartbeats 6400000 in
theorem print_good {g : List Rr} {v : Value} {P : Nat → Prop} (w : World) (hg : Laid w) (hr : RepGr w P g v) (hP : ∀ b, P b → b < w.heap.size) (hb : Rr.bulks g ≤ 1000000000) (hok : okG g = true) : Calls Tryd.prog 7 #[.agg #[v]] w (PrP g w) := by
  obtain ⟨n, hn⟩ : ∃ n, n = g.length := ⟨_, rfl⟩
  obtain ⟨a, cap, rfl, hcap, hmax⟩ := hr.slice
  have hm1 := cell_alloc_lt
  have hok2 := hok
  rw [okG, Bool.and_eq_true, Bool.and_eq_true] at hok2
  obtain ⟨⟨hn1, hn2⟩, hall⟩ := hok2
  have hn1 := of_decide_eq_true hn1
  have hn2 := of_decide_eq_true hn2
  have HC := Lib.hid (contains_rule false (by rw [hall]; rfl) (w.alloc (.cells #[.slice a g.length cap] 24)) (hr.mono (fun b hb => RowKit.Below.heap_alloc _ _ _ (hP b hb)) (fun _ h => h)) (fun b hb => by have := hP b hb; simp; omega) hb)
  have HA := Lib.hid (fun y (hy : y ∈ g) => okU_ok (List.all_eq_true.1 hall y hy))
  have HBK := Lib.hid (fun y (hy : y ∈ g) => Nat.le_trans (bulk_rule hy) hb)
  have HR := Lib.hid hr
  have HP := Lib.hid hP
  have HG := Lib.hid hg
  have HOK := Lib.hid hok
  rw [← hn] at HC hn1 hn2 ⊢
  have HN := Lib.hid hn
  clear hr hP hb hn hok hall hg hmax hcap
  have d1 : decide ((n : Int) < 1) = false := by simp; omega
  have d2 : decide ((64 : Int) < n) = false := by simp; omega
  go_enter Tryd.func7, Tryd.ntmps7
  repeat (first | go_values | go_skip | go_guarded | go_step | go_upon)
  refine (HC.out).mono ?_
  rintro e w1 ⟨rfl, hb1⟩
  obtain ⟨hc1, hf1⟩ := bcell hb1
  have hz1 := hb1.size
  try simp at hz1
  dsimp only
  have hw1 : Below w.heap.size w w1 := (by repeat (first | exact Below.refl _ _ | assumption | refine bal ?_ _ | refine bdr ?_ | refine bdrn ?_ _ | (refine bset ?_ (by first | exact Nat.le_refl _ | (simp; done) | (simp; omega) | omega) _) | refine bstep ?_ (by assumption)))
  have c1 : w1.cell? ⟨w.heap.size, 0, none⟩ = some (.slice a n cap) := (hb1.cell (p := ⟨w.heap.size, 0, none⟩) (by simp)).trans (by simp)
  have qg : w.heap.size < w1.heap.size := by have := hb1.size; simp at this; omega
  repeat (first | go_values | go_skip | go_guarded | go_step | go_upon)
  go_loopw [28] (fun tt wr => ∃ j : Nat, tt = .int .i64 (j : Int) ∧ j ≤ n ∧ Hid (PrJ w1.heap.size g w1 j wr)) (fun tt _ => n - (intOf tt).toNat)
  case atStart => exact ⟨0, rfl, Nat.zero_le _, Lib.hid ⟨[], Wr.refl [], by simp, pg_new w1, (bal (Below.refl _ w1) _)⟩⟩
  case round =>
    obtain ⟨j, rfl, hj, hI⟩ := hrel
    obtain ⟨A, i1, i2, i3, i4⟩ := hI.out
    have hz := hw1.size
    by_cases hlt : j < n
    · have hlt2 : j < g.length := by rw [← HN.out]; exact hlt
      obtain ⟨y, hy⟩ : ∃ y, g[j]? = some y := ⟨g[j], List.getElem?_eq_getElem hlt2⟩
      have hmem := List.mem_of_getElem? hy
      rcases HR.out.parts with ⟨e, _⟩ | ⟨e, _⟩ | ⟨gg, o, cap', e, hgg, _, _, _, hr⟩
      · rw [e] at hlt2; simp at hlt2
      · rw [e] at hlt2; simp at hlt2
      · obtain rfl : a = some ⟨gg, o, none⟩ := by injection e
        have hPw : ∀ b', P b' → wr.heap[b']? = w.heap[b']? := fun b' hb' => (i4.block b' (Nat.lt_of_lt_of_le (HP.out b' hb') hz)).trans (hw1.block b' (HP.out b' hb'))
        obtain ⟨k1, t1, x1, sa, sn, sc, p1, l1, _, q0, _, a9, a0, a1, a2, a3, a4, a5, a6, a7, a8⟩ := (hr.mono (w' := wr) (P' := P) hPw (fun _ h => h) hgg).get hy
        have hoky := HA.out y hmem
        have hbky := HBK.out y hmem
        rw [Rr.bulk] at hbky
        have hnl := name_len hoky.1
        have hms := mkS_size y.name
        have qb := pg_lt i3
        have d3 : decide ((j : Int) < n) = true := by simpa using hlt
        have k5 : IntKind.i64.wrap ((j : Int) + 1) = (j : Int) + 1 := by rw [IntKind.wrap_i64]; omega
        have HE := Lib.hid (fun (A2 : List UInt8) (w2 : World) (hA : A2.length + 3000 * y.body.bulk ≤ 100000000000000) (h2 : Pg w1.heap.size w1.heap.size (Lib.byteCells A2) w2) (hw : Below w1.heap.size w1 w2) => expr_any hoky.2 w1.heap.size A2 w2 P _ (q0.mono (w' := w2) (fun b' hb' => ((hw.block b' (Nat.lt_of_lt_of_le (HP.out b' hb') hz)).trans (hw1.block b' (HP.out b' hb'))).trans (hPw b' hb').symm) (fun _ h => h)) (fun b' hb' => Nat.lt_of_lt_of_le (HP.out b' hb') hz) h2 hA hoky.2)
        have HTK := Lib.hid (take_snocR hy)
        have HI1 := Lib.hid i1
        have HI3 := Lib.hid i3
        have HI4 := Lib.hid i4
        have hse : mkS y.name ++ (⟨#[32, 60, 45, 32]⟩ : ByteArray) = ⟨(y.name ++ [32, 60, 45, 32]).toArray⟩ := ba_app y.name [32, 60, 45, 32]
        have HSE := Lib.hid hse
        clear hy hmem q0 hr e hPw hI i1 i3 i4 hoky hse
        dsimp only [trC] at HE
        repeat (first | go_values | go_skip | go_guarded | go_step | go_upon)
        refine (pg_ws2 w1.heap.size A (y.name ++ [32, 60, 45, 32]) _ HSE.out _ (pg_below HI3.out (bal (Below.refl _ wr) _)) (by simp; omega)).mono ?_
        rintro e w2 ⟨rfl, hB2, hb2, ho2⟩
        have hbx2 := oth_cell ho2 (heap_alloc_new wr _) (by omega) (by decide)
        have cB2 := (cells_at hbx2).1
        have hw2 : Below w1.heap.size w1 w2 := HI4.out.trans (((bal (Below.refl _ wr) _).mono (Nat.le_of_lt qb)).trans hb2)
        clear hbx2
        dsimp only
        repeat (first | go_values | go_skip | go_guarded | go_step | go_upon)
        refine (HE.out (A ++ (y.name ++ [32, 60, 45, 32])) w2 (by simp; omega) hB2 hw2).mono ?_
        rintro e w3 ⟨rfl, A', h1, h2, h3, h4, h5⟩
        have hl2 : A'.length ≤ 4000000000000 := by simp at h2; omega
        dsimp only
        repeat (first | go_values | go_skip | go_guarded | go_step | go_upon)
        refine (pg_wb w1.heap.size A' 10 10 w3 rfl h3 (by omega)).mono ?_
        rintro e w4 ⟨rfl, hB4, hb4, ho4⟩
        have hw4 : Below w1.heap.size w1 w4 := hw2.trans (h4.trans hb4)
        have HW : Wr [] (txG (g.take (j + 1))) (A' ++ [10]) := by
          rw [HTK.out, txG_snoc]
          have := HI1.out.trans ((Wr.put A (y.name ++ [32, 60, 45, 32])).trans (h1.trans (Wr.put A' [10])))
          simpa [txU] using this
        have HW4 := Lib.hid HW
        have q4 := pg_lt hB4
        clear HW h1 h2 h3 h5
        dsimp only
        repeat (first | go_values | go_skip | go_guarded | go_step | go_upon)
        by_cases hwide : 8192 < (A' ++ [10]).length
        · refine (wide_any _ (A' ++ [10]) true (decide_eq_true hwide) w4 hB4).mono ?_
          rintro e w5 ⟨rfl, hb5⟩
          have hfin := txG_take g (j + 1)
          have hdone := (HW4.out.done).2.1 hwide
          dsimp only
          repeat (first | go_values | go_skip | go_guarded | go_step | go_upon)
          go_ret2
          exact ⟨⟨_, .inr (.inl ⟨HOK.out, by omega, rfl⟩), rfl⟩, (hw1.trans ((hw4.mono (by omega)).trans (hb5.mono (by omega))))⟩
        · refine (wide_any _ (A' ++ [10]) false (decide_eq_false hwide) w4 hB4).mono ?_
          rintro e w5 ⟨rfl, hb5⟩
          have HF := Lib.hid (show PrJ w1.heap.size g w1 (j + 1) w5 from ⟨A' ++ [10], HW4.out, by omega, pg_below hB4 hb5, hw4.trans (hb5.mono (Nat.le_of_lt q4))⟩)
          clear hwide
          dsimp only
          repeat (first | go_values | go_skip | go_guarded | go_step | go_upon)
          exact ⟨⟨j + 1, by go_num, by omega, HF⟩, by simp [intOf]; omega⟩
    · have d3 : decide (j < n) = false := by simpa using hlt
      have hjn : j = g.length := by rw [← HN.out]; omega
      rw [hjn, List.take_length] at i1
      have hA : A = txG g := i1.done.1 i2
      have hne : A ≠ [] := by
        rw [hA]
        have hg0 : 0 < g.length := by rw [← HN.out]; omega
        match g, hg0 with
        | r :: l, _ => simp [txG, txU]
      have hbl : bl (⟨A.toArray⟩ : ByteArray) = txG g := by rw [← hA]; simp [bl]
      have hsz : (⟨A.toArray⟩ : ByteArray).size ≤ 140737488355328 := by rw [← bl_length, hbl, ← hA]; omega
      have HSZ := Lib.hid hsz
      have HBL := Lib.hid hbl
      have HAT := Lib.hid hA
      have h8 : (txG g).length ≤ 8192 := by rw [← hA]; exact i2
      have H8 := Lib.hid h8
      have HNE := Lib.hid hne
      have qb := pg_lt i3
      have HI3 := Lib.hid i3
      have HWr := Lib.hid (show Below w.heap.size w wr from hw1.trans (i4.mono hz))
      clear hlt hjn i1 i2 i3 i4 hI hA hbl hsz h8 hne
      repeat (first | go_values | go_skip | go_guarded | go_step | go_upon)
      refine (pg_string_any w1.heap.size w1.heap.size A wr HI3.out HNE.out).mono ?_
      rintro e w2 ⟨rfl, hB2, hb2, ho2⟩
      have HW2 := Lib.hid (show Below w.heap.size w w2 from HWr.out.trans (hb2.mono hz))
      have q2 := pg_lt hB2
      dsimp only
      repeat (first | go_values | go_skip | go_guarded | go_step | go_upon)
      refine (syn_any ⟨A.toArray⟩ w2 (HG.out.below HW2.out HG.out.pos) HSZ.out).mono ?_
      rintro e w3 ⟨hb3, r, hrd, hp⟩
      rw [HBL.out] at hrd
      have HRD := Lib.hid hrd
      have HW3 := Lib.hid (show Below w.heap.size w w3 from HW2.out.trans (hb3.mono HW2.out.size))
      clear hrd
      cases r with
      | inl er =>
        obtain ⟨c, x⟩ := er
        obtain ⟨p, rfl, _, _⟩ := hp
        dsimp only
        repeat (first | go_values | go_skip | go_guarded | go_step | go_upon)
        go_ret2
        exact ⟨⟨_, .inr (.inr ⟨HOK.out, H8.out, .inl ⟨_, HRD.out, rfl⟩⟩), rfl⟩, HW3.out.trans ((bal (Below.refl _ w3) _).mono HW3.out.size)⟩
      | inr hh =>
        obtain ⟨v, rfl, hG⟩ := hp
        obtain ⟨va, vcap, hv, _⟩ := hG.anyG.slice
        rw [List.length_map] at hv
        subst hv
        clear hG
        have hB3 := pg_below (pg_below hB2 hb3) (bal (Below.refl _ w3) (.cells #[.slice va hh.length vcap] 24))
        have HW4 := Lib.hid (HW3.out.trans ((bal (Below.refl _ w3) (.cells #[.slice va hh.length vcap] 24)).mono HW3.out.size))
        dsimp only
        repeat (first | go_values | go_skip | go_guarded | go_step | go_upon)
        refine (pg_string_any w1.heap.size w1.heap.size A _ hB3 HNE.out).mono ?_
        rintro e w5 ⟨rfl, hB5, hb5, ho5⟩
        dsimp only
        repeat (first | go_values | go_skip | go_guarded | go_step | go_upon)
        go_ret2
        exact ⟨⟨.inr (txG g), .inr (.inr ⟨HOK.out, H8.out, .inr ⟨_, HRD.out, rfl⟩⟩), by rw [← HAT.out]; rfl⟩, HW4.out.trans (hb5.mono hz)⟩
theorem print_any {g : List Rr} {v : Value} {P : Nat → Prop} (w : World) (hg : Laid w) (hr : RepGr w P g v) (hP : ∀ b, P b → b < w.heap.size) (hb : Rr.bulks g ≤ 1000000000) : Calls Tryd.prog 7 #[.agg #[v]] w (PrP g w) := by
  cases hok : okG g with
  | true => exact print_good w hg hr hP hb hok
  | false => exact print_bad w hr hP hb hok
end Go.Proofs.YteohgaheockepaaDoor
namespace Go.Proofs.YteohgaheockepaaDoor
open Go.RowKit Go.Sort

/-- What Expr answers, by what Print comes to. -/
def exprOf : Nat ⊕ List UInt8 → List UInt8
  | .inl _ => []
  | .inr s => (s.take (s.length - 1)).drop 5
/-- Where the text of a rule of one name is not empty. -/
theorem one_long (n : Tr) : 7 ≤ (txG [⟨[97], n, 0⟩]).length ∨ (txG [⟨[97], n, 0⟩]).length = 6 + (txT n).length := by
  right
  simp [txG, txU]
  omega
set_option maxRecDepth 100000 in
set_option maxHeartbeats 6400000 in
theorem pexpr_any {n : Tr} {c : List Value} {P : Nat → Prop} (w : World) (hg : Laid w) (hr : RepA w P n c) (hP : ∀ b, P b → b < w.heap.size) (hb : n.bulk ≤ 999999999) : Calls Tryd.prog 10 #[.agg c.toArray] w (fun e w' => (∃ r, PrRes [⟨[97], n, 0⟩] r ∧ e = .returned (.string ⟨(exprOf r).toArray⟩)) ∧ Below w.heap.size w w') := by
  obtain ⟨k, t, x, v, l, p, hn, rfl, hl⟩ := hr.form
  obtain ⟨sa, cap, rfl, _⟩ := hl.slice
  have hm1 := cell_alloc_lt
  have HG := Lib.hid hg
  have hz0 : ∀ j, j < 10 → ((w.alloc (.cells (trC k t x (.slice sa l.length cap) p).toArray 39)).alloc (.cells (Value.string (mkS [97]) :: (trC k t x (.slice sa l.length cap) p ++ [.int .i64 0])).toArray 41)).cell? ⟨w.heap.size + 1, 0 + j, none⟩ = (Value.string (mkS [97]) :: (trC k t x (.slice sa l.length cap) p ++ [.int .i64 0]))[j]? := fun j _ => by
    rw [(cells_at (allocs_new w _ _)).1, Nat.zero_add]
    simp
  have HRG := Lib.hid (RepGr.row (w := (w.alloc (.cells (trC k t x (.slice sa l.length cap) p).toArray 39)).alloc (.cells (Value.string (mkS [97]) :: (trC k t x (.slice sa l.length cap) p ++ [.int .i64 0])).toArray 41)) (P := fun b => b < w.heap.size + 2) (l := [⟨[97], n, 0⟩]) (g := w.heap.size + 1) (o := 0) (cap := 1) (by omega) (by simp) (by simp) (by simp [maxLen]) (.cons hz0 (hr.mono (fun b hb => (RowKit.Below.heap_alloc _ _ _ (by have := hP b hb; simp; omega)).trans (RowKit.Below.heap_alloc _ _ _ (hP b hb))) (fun b hb => by have := hP b hb; omega)) .nil))
  clear hg hl hz0
  dsimp only [trC]
  go_enter Tryd.func10, Tryd.ntmps10
  repeat (first | go_values | go_skip | go_guarded | go_step | go_upon)
  refine (print_any _ (HG.out.below (bal (bal (Below.refl _ w) _) _) HG.out.pos) HRG.out (by intro b hb; simp; omega) (by simp only [Rr.bulks, Rr.bulk, List.length_singleton]; omega)).mono ?_
  rintro e w2 ⟨⟨r, hr2, rfl⟩, hb2⟩
  have HR2 := Lib.hid hr2
  clear hr2
  cases r with
  | inl cc =>
    dsimp only [prVal]
    repeat (first | go_values | go_skip | go_guarded | go_step | go_upon)
    go_ret
    exact ⟨⟨_, HR2.out, rfl⟩, (by repeat (first | exact Below.refl _ _ | assumption | refine bal ?_ _ | refine bdr ?_ | refine bdrn ?_ _ | (refine bset ?_ (by first | exact Nat.le_refl _ | (simp; done) | (simp; omega) | omega) _) | refine bstep ?_ (by assumption)))⟩
  | inr s =>
    have hlen : 6 ≤ s.length ∧ s.length ≤ 8192 := by
      rcases HR2.out with ⟨_, e⟩ | ⟨_, _, e⟩ | ⟨_, h8, ⟨_, _, e⟩ | ⟨_, _, e⟩⟩
      · cases e
      · cases e
      · cases e
      · injection e with e
        subst e
        have hl6 : (txG [⟨[97], n, 0⟩]).length = 6 + (txT n).length := by simp [txG, txU]; omega
        omega
    obtain ⟨m, hm⟩ : ∃ m, s.length = m + 6 := ⟨s.length - 6, by omega⟩
    have hss : (⟨s.toArray⟩ : ByteArray).size = m + 6 := by simp [ByteArray.size, hm]
    have k5 : IntKind.i64.wrap (((m + 6 : Nat) : Int) - 1) = ((m + 5 : Nat) : Int) := by rw [IntKind.wrap_i64]; omega
    dsimp only [prVal]
    repeat (first | go_values | go_skip | go_guarded | go_step | go_upon)
    go_ret
    refine ⟨⟨_, HR2.out, ?_⟩, (by repeat (first | exact Below.refl _ _ | assumption | refine bal ?_ _ | refine bdr ?_ | refine bdrn ?_ _ | (refine bset ?_ (by first | exact Nat.le_refl _ | (simp; done) | (simp; omega) | omega) _) | refine bstep ?_ (by assumption)))⟩
    have he : (⟨s.toArray⟩ : ByteArray).extract 5 (m + 5) = ⟨(exprOf (.inr s)).toArray⟩ := by
      rw [exprOf, hm]
      apply ByteArray.ext
      simp [ByteArray.data_extract, List.extract_toArray, List.drop_take, List.extract]
    rw [← he]
    rfl
end Go.Proofs.YteohgaheockepaaDoor
namespace Go.Proofs.YteohgaheockepaaDoor
open Go.RowKit

/-- a<-(('x'))/b*!(c d), and what is printed of it. -/
def small5L : List UInt8 := [97, 60, 45, 40, 40, 39, 120, 39, 41, 41, 47, 98, 42, 33, 40, 99, 32, 100, 41]
def small5U : List UInt8 := [97, 32, 60, 45, 32, 39, 120, 39, 32, 47, 32, 98, 42, 32, 33, 40, 99, 32, 100, 41, 10]
def small5G : List Ru := [⟨[97], .mk 7 [] 0 [.mk 2 [120] 0 [] 5, .mk 6 [] 0 [.mk 9 [] 0 [.mk 5 [98] 0 [] 11] 11, .mk 12 [] 0 [.mk 6 [] 0 [.mk 5 [99] 0 [] 15, .mk 5 [100] 0 [] 17] 15] 13] 11] 5, 0⟩]
theorem small5_lexed : lexed small5L = .inr [⟨1, [97], 0, 0⟩, ⟨2, [], 0, 1⟩, ⟨5, [40], 0, 3⟩, ⟨5, [40], 0, 4⟩, ⟨3, [120], 0, 5⟩, ⟨5, [41], 0, 8⟩, ⟨5, [41], 0, 9⟩, ⟨5, [47], 0, 10⟩, ⟨1, [98], 0, 11⟩, ⟨5, [42], 0, 12⟩, ⟨5, [33], 0, 13⟩, ⟨5, [40], 0, 14⟩, ⟨1, [99], 0, 15⟩, ⟨1, [100], 0, 17⟩, ⟨5, [41], 0, 18⟩, ⟨6, [], 0, 19⟩] := by
  refine lexed_toks (by decide) ?_
  unfold toks
  rfl
theorem small5_rules : pRules 30 [⟨1, [97], 0, 0⟩, ⟨2, [], 0, 1⟩, ⟨5, [40], 0, 3⟩, ⟨5, [40], 0, 4⟩, ⟨3, [120], 0, 5⟩, ⟨5, [41], 0, 8⟩, ⟨5, [41], 0, 9⟩, ⟨5, [47], 0, 10⟩, ⟨1, [98], 0, 11⟩, ⟨5, [42], 0, 12⟩, ⟨5, [33], 0, 13⟩, ⟨5, [40], 0, 14⟩, ⟨1, [99], 0, 15⟩, ⟨1, [100], 0, 17⟩, ⟨5, [41], 0, 18⟩, ⟨6, [], 0, 19⟩] [] = some (.ok small5G [⟨6, [], 0, 19⟩]) := by
  simp [small5G, pRules, pChoice, pAlts, pParts, pPart, pOne, kindT, posT, sgnOf, preK, sufK, joinN, nameT, Nd.pos]
theorem small5_reads : Reads small5L (.inr small5G) := by
  unfold Reads
  rw [small5_lexed]
  exact ⟨30, .inr ⟨_, _, small5_rules, rfl⟩⟩
theorem small5_ok : okG (small5G.map Ru.rr) = true := by
  simp [small5G, Ru.rr, Nd.tr, Nd.trs, okG, okU, okT, okH, okL]
  decide
theorem small5_tx : txG (small5G.map Ru.rr) = small5U := by
  simp [small5G, Ru.rr, Nd.tr, Nd.trs, txG, txU, txT, pcT, pcR, paren, rankT, Tr.kind, txs, Pc.tx, postB, preB]
  rfl
theorem small5_fit : ∃ hs, Reads small5U (.inr hs) := by
  have hl : lexed small5U = .inr [⟨1, [97], 0, 0⟩, ⟨2, [], 0, 2⟩, ⟨3, [120], 0, 5⟩, ⟨5, [47], 0, 9⟩, ⟨1, [98], 0, 11⟩, ⟨5, [42], 0, 12⟩, ⟨5, [33], 0, 14⟩, ⟨5, [40], 0, 15⟩, ⟨1, [99], 0, 16⟩, ⟨1, [100], 0, 18⟩, ⟨5, [41], 0, 19⟩, ⟨6, [], 0, 21⟩] := by
    refine lexed_toks (by decide) ?_
    unfold toks
    rfl
  refine ⟨[⟨[97], .mk 7 [] 0 [.mk 2 [120] 0 [] 5, .mk 6 [] 0 [.mk 9 [] 0 [.mk 5 [98] 0 [] 11] 11, .mk 12 [] 0 [.mk 6 [] 0 [.mk 5 [99] 0 [] 16, .mk 5 [100] 0 [] 18] 16] 14] 11] 5, 0⟩], ?_⟩
  unfold Reads
  rw [hl]
  refine ⟨30, .inr ⟨_, [⟨6, [], 0, 21⟩], ?_, rfl⟩⟩
  simp [pRules, pChoice, pAlts, pParts, pPart, pOne, kindT, posT, sgnOf, preK, sufK, joinN, nameT, Nd.pos]
/-- What Print comes to, if it comes to a text. -/
theorem res_text {g : List Rr} {s : List UInt8} (h : PrRes g (.inr s)) : s = txG g ∧ okG g = true ∧ (txG g).length ≤ 8192 ∧ ∃ hs, Reads (txG g) (.inr hs) := by
  rcases h with ⟨_, e⟩ | ⟨_, _, e⟩ | ⟨h1, h2, ⟨_, _, e⟩ | ⟨hs, h3, e⟩⟩
  · cases e
  · cases e
  · cases e
  · injection e with e
    exact ⟨e, h1, h2, hs, h3⟩
/-- Where the text is read. -/
theorem res_is {g : List Rr} {x : Nat ⊕ List UInt8} (h : PrRes g x) (h1 : okG g = true) (h2 : (txG g).length ≤ 8192) {hs : List Ru} (h3 : Reads (txG g) (.inr hs)) : x = .inr (txG g) := by
  rcases h with ⟨e, _⟩ | ⟨_, e, _⟩ | ⟨_, _, ⟨_, e, _⟩ | ⟨_, _, e⟩⟩
  · rw [h1] at e; cases e
  · omega
  · cases e.det h3
  · exact e
theorem small5_res {x : Nat ⊕ List UInt8} (h : PrRes (small5G.map Ru.rr) x) : x = .inr small5U := by
  obtain ⟨hs, h3⟩ := small5_fit
  rw [← small5_tx] at h3
  have := res_is h small5_ok (by rw [small5_tx]; decide) h3
  rwa [small5_tx] at this
theorem okG_all {g : List Rr} (h : okG g = true) : (∀ r ∈ g, OkR r) ∧ 0 < g.length ∧ g.length ≤ 64 := by
  rw [okG, Bool.and_eq_true, Bool.and_eq_true] at h
  obtain ⟨⟨h1, h2⟩, h3⟩ := h
  exact ⟨fun r hr => okU_ok (List.all_eq_true.1 h3 r hr), of_decide_eq_true h1, of_decide_eq_true h2⟩
theorem ok_okG {r : Rr} (h : OkR r) : okG [r] = true := by
  simp [okG, ok_okU h]
/-- A printed grammar's text is read as it. -/
theorem res_reads {g : List Rr} {s : List UInt8} (h : PrRes g (.inr s)) : s = txG g ∧ (txG g).length ≤ 8192 ∧ ∃ hs, Reads (txG g) (.inr hs) ∧ SameR false g (hs.map Ru.rr) := by
  obtain ⟨e, h1, h2, hs, h3⟩ := res_text h
  obtain ⟨g1, g2, g3⟩ := okG_all h1
  refine ⟨e, h2, hs, h3, ?_⟩
  rw [← txs_gram] at h2 h3
  rcases gram_reads g1 g2 g3 h2 with ⟨hs2, q1, q2⟩ | ⟨x, q⟩
  · have := h3.det q1
    injection this with this
    rw [this]
    exact q2
  · cases h3.det q
theorem res_fit {g : List Rr} {s : List UInt8} (h : PrRes g (.inr s)) : ∀ r ∈ g, OkR r ∧ Fit r.body := by
  obtain ⟨_, h1, h2, hs, h3⟩ := res_text h
  obtain ⟨g1, _, _⟩ := okG_all h1
  exact fun r hr => ⟨g1 r hr, gram_fit g1 h2 h3 r hr⟩
/-- One rule. -/
theorem res_one {r : Rr} (h : OkR r) (hf : Fit r.body) (h8 : (txU r).length ≤ 8192) {x : Nat ⊕ List UInt8} (hx : PrRes [r] x) : x = .inr (txU r) := by
  have e : txG [r] = txU r := by simp [txG]
  obtain ⟨m, p, h1, _⟩ := fit_reads h.2 hf h.1 [.nl] ⟨trivial, fun u e => (by cases e), trivial⟩ rfl (fun b r e => by injection e with e1 e2; subst e1; rfl) h8
  have := res_is hx (ok_okG h) (by rw [e]; exact h8) (hs := [⟨r.name, m, p⟩]) (by rw [e]; exact h1)
  rwa [e] at this
/-- An expression's text. -/
theorem expr_is {n : Tr} (h : OkT n) (hf : Fit n) (h8 : (txT n).length + 6 ≤ 8192) {x : Nat ⊕ List UInt8} (hx : PrRes [⟨[97], n, 0⟩] x) : exprOf x = txT n := by
  have := res_one (r := ⟨[97], n, 0⟩) ⟨rfl, h⟩ hf (by simp [txU]; omega) hx
  subst this
  simp [exprOf, txU]
theorem expr_nil {n : Tr} {x : Nat ⊕ List UInt8} (hx : PrRes [⟨[97], n, 0⟩] x) : exprOf x = [] ∨ (exprOf x = txT n ∧ OkT n ∧ Fit n ∧ (txT n).length + 6 ≤ 8192) := by
  cases x with
  | inl c => exact .inl rfl
  | inr s =>
    obtain ⟨e, _, h2, _⟩ := res_text hx
    obtain ⟨h1, h3⟩ := res_fit hx _ List.mem_cons_self
    have hl : (txT n).length + 6 ≤ 8192 := by simp [txG, txU] at h2; omega
    exact .inr ⟨expr_is h1.2 h3 hl hx, h1.2, h3, hl⟩
/-- The expression's text behind a name and an arrow. -/
theorem expr_reads {n : Tr} (h : OkT n) (hf : Fit n) (h8 : (txT n).length + 6 ≤ 8192) : ∃ m x, Reads ([114, 32, 60, 45, 32] ++ txT n) (.inr [⟨[114], m, x⟩]) ∧ SameT false n m.tr := by
  have := fit_reads h hf (nm := [114]) rfl [] trivial rfl (fun b r e => by cases e) (by simp [txs]; omega)
  simpa [txs] using this
theorem txG_mem {g : List Rr} {r : Rr} (h : r ∈ g) : (txU r).length ≤ (txG g).length := by
  induction g with
  | nil => cases h
  | cons x l ih =>
    rw [txG, List.length_append]
    rcases List.mem_cons.1 h with rfl | h
    · omega
    · have := ih h; omega
end Go.Proofs.YteohgaheockepaaDoor
