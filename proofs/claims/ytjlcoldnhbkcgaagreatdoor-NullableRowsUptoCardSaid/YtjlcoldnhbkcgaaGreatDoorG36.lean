/- Parse of any source; the syntax laws' small case; Same of grammars as they lie. | printer.Print of any grammar. | printer.Print of a grammar that may be. | printer.Expr of any node. | The printer laws' small case: plain. | What the tokens of a source hold: plain. -/
import Derived.Test.YtjlcoldnhbkcgaaGreatDoorG35
import Derived.Test.YtjlcoldnhbkcgaaGreatDoorG25
import Derived.Test.YtjlcoldnhbkcgaaGreatDoorG30
import Derived.Test.YtjlcoldnhbkcgaaGreatDoorG33
import Derived.Test.YtjlcoldnhbkcgaaGreatDoorG34
import Derived.Test.YtjlcoldnhbkcgaaGreatDoorG28
import Derived.Test.YtjlcoldnhbkcgaaGreatDoorG27
namespace Go.Proofs.YtjlcoldnhbkcgaaGreatDoor
open Go.RowKit Go.Sort

theorem syn_any (S : ByteArray) (w : World) (hg : Laid w) (hs : S.size ≤ 140737488355328) : Calls Tryz.prog 22 #[.string S] w (ParseP (bl S) w) := by
  cases h : lexed (bl S) with
  | inl er => exact syn_no S w hg hs h
  | inr l => exact syn_ok S w hg h
/-- Where it is known what a source is read as. -/
theorem syn_inr (S : ByteArray) (w : World) (hg : Laid w) (hs : S.size ≤ 140737488355328) {g : List Ru} (h : Reads (bl S) (.inr g)) : Calls Tryz.prog 22 #[.string S] w (fun e w' => (∃ v, e = .returned (.tuple #[.agg #[v], .nilIface]) ∧ GRep w' (Fresh w w') g v) ∧ Below w.heap.size w w') := by
  refine (syn_any S w hg hs).mono ?_
  rintro e w' ⟨hb, r, hr, hp⟩
  have := hr.det h
  subst this
  exact ⟨hp, hb⟩
theorem syn_inl (S : ByteArray) (w : World) (hg : Laid w) (hs : S.size ≤ 140737488355328) {c : Nat} {x : Int} (h : Reads (bl S) (.inl (c, x))) : Calls Tryz.prog 22 #[.string S] w (fun e w' => AnsFaultI c x w (fun v => .tuple #[.agg #[.slice none 0 0], v]) e w' ∧ Below w.heap.size w w') := by
  refine (syn_any S w hg hs).mono ?_
  rintro e w' ⟨hb, r, hr, hp⟩
  have := hr.det h
  subst this
  exact ⟨hp, hb⟩
/-- Every source is read as something, if Parse is run at all. -/
theorem reads_one {S : ByteArray} {w : World} (_ : Laid w) (_ : S.size ≤ 140737488355328) {R : Ending → World → Prop} (h : ∀ r, Reads (bl S) r → Calls Tryz.prog 22 #[.string S] w R) (h0 : ∃ r, Reads (bl S) r) : Calls Tryz.prog 22 #[.string S] w R := by
  obtain ⟨r, hr⟩ := h0
  exact h r hr
theorem same_G (at_ : Bool) {gs gs' : List Ru} {v v' : Value} {P P' : Nat → Prop} (w : World) (h : SameG at_ gs gs') (g1 : GRep w P gs v) (g2 : GRep w P' gs' v') (hP : ∀ b, P b → b < w.heap.size) (hP' : ∀ b, P' b → b < w.heap.size) :
    Calls Tryz.prog 21 #[.agg #[v], .agg #[v'], .bool at_] w (Ans (.bool true) w) := by
  have hl := h.length
  rcases g1 with ⟨rfl, rfl⟩ | ⟨b, cap, cur, cs, rfl, h1, h2, h3, h4, h5, h6, h7⟩
  · rcases g2 with ⟨rfl, rfl⟩ | ⟨b', cap', cur', cs', rfl, h1', h2', h3', h4', h5', h6', h7'⟩
    · exact same_nil at_ w
    · simp at hl; omega
  · rcases g2 with ⟨rfl, rfl⟩ | ⟨b', cap', cur', cs', rfl, h1', h2', h3', h4', h5', h6', h7'⟩
    · rw [List.length_nil] at hl; omega
    · rw [← hl] at h3' h6' ⊢
      exact same_rules at_ w h rfl h3 h3' h4 h2 h2' h6 h6' h7 h7' hP hP'
/-- The small case: a <- 'x' b* b <- [0-9]. -/
def small4L : List UInt8 := [97, 32, 60, 45, 32, 39, 120, 39, 32, 98, 42, 32, 98, 32, 60, 45, 32, 91, 48, 45, 57, 93]
theorem small4_lexed : ∃ c, lexed small4L = .inr [⟨1, [97], 0, 0⟩, ⟨2, [], 0, 2⟩, ⟨3, [120], 0, 5⟩, ⟨1, [98], 0, 9⟩, ⟨5, [42], 0, 10⟩, ⟨1, [98], 0, 12⟩, ⟨2, [], 0, 14⟩, ⟨4, [], c, 17⟩, ⟨6, [], 0, 22⟩] := by
  refine ⟨?_, ?_⟩
  rotate_left
  · refine lexed_toks (by decide) ?_
    unfold toks
    rfl
theorem small4_rules (c : BitVec 256) : pRules 12 [⟨1, [97], 0, 0⟩, ⟨2, [], 0, 2⟩, ⟨3, [120], 0, 5⟩, ⟨1, [98], 0, 9⟩, ⟨5, [42], 0, 10⟩, ⟨1, [98], 0, 12⟩, ⟨2, [], 0, 14⟩, ⟨4, [], c, 17⟩, ⟨6, [], 0, 22⟩] [] = some (.ok [⟨[97], .mk 6 [] 0 [.mk 2 [120] 0 [] 5, .mk 9 [] 0 [.mk 5 [98] 0 [] 9] 9] 5, 0⟩, ⟨[98], .mk 3 [] c [] 17, 12⟩] [⟨6, [], 0, 22⟩]) := by
  simp [pRules, pChoice, pAlts, pParts, pPart, pOne, kindT, posT, sgnOf, preK, sufK, joinN, nameT, Nd.pos]
theorem small4_reads : ∃ c, Reads small4L (.inr [⟨[97], .mk 6 [] 0 [.mk 2 [120] 0 [] 5, .mk 9 [] 0 [.mk 5 [98] 0 [] 9] 9] 5, 0⟩, ⟨[98], .mk 3 [] c [] 17, 12⟩]) := by
  obtain ⟨c, h⟩ := small4_lexed
  refine ⟨c, ?_⟩
  unfold Reads
  rw [h]
  exact ⟨12, .inr ⟨_, _, small4_rules c, rfl⟩⟩
end Go.Proofs.YtjlcoldnhbkcgaaGreatDoor
namespace Go.Proofs.YtjlcoldnhbkcgaaGreatDoor
open Go.RowKit Go.Sort

/-- What Print comes to: an error's number, or the text. -/
def PrRes (g : List Rr) (r : Nat ⊕ List UInt8) : Prop :=
  (okG g = false ∧ r = .inl 20) ∨ (okG g = true ∧ 8192 < (txG g).length ∧ r = .inl 2) ∨ (okG g = true ∧ (txG g).length ≤ 8192 ∧ ((∃ er, Reads (txG g) (.inl er) ∧ r = .inl 20) ∨ ∃ h, Reads (txG g) (.inr h) ∧ r = .inr (txG g)))
def prVal : Nat ⊕ List UInt8 → Value
  | .inl c => .tuple #[.string ⟨#[]⟩, .iface 66 (.int .i64 (c : Nat))]
  | .inr s => .tuple #[.string ⟨s.toArray⟩, .nilIface]
def PrP (g : List Rr) (w : World) (e : Ending) (w' : World) : Prop := (∃ r, PrRes g r ∧ e = .returned (prVal r)) ∧ Below w.heap.size w w'
set_option maxRecDepth 100000 in
set_option maxHeartbeats 6400000 in
/-- A grammar that may not be. -/
theorem print_bad {g : List Rr} {v : Value} {P : Nat → Prop} (w : World) (hr : RepGr w P g v) (hP : ∀ b, P b → b < w.heap.size) (hb : Rr.bulks g ≤ 1000000000) (hok : okG g = false) : Calls Tryz.prog 46 #[.agg #[v]] w (PrP g w) := by
  obtain ⟨n, hn⟩ : ∃ n, n = g.length := ⟨_, rfl⟩
  obtain ⟨a, cap, rfl, hcap, _⟩ := hr.slice
  have hm1 := cell_alloc_lt
  have HC := Lib.hid (fun (q : Bool) (hq : g.all okU = !q) (w' : World) (h : Below w.heap.size w w') => contains_rule q hq w' (hr.mono (fun b hb => h.block b (hP b hb)) (fun _ h => h)) (fun b hb => Nat.lt_of_lt_of_le (hP b hb) h.size) hb)
  have HF := Lib.hid (show ∀ w', Below w.heap.size w w' → PrP g w (.returned (prVal (.inl 20))) w' from fun w' h => ⟨⟨_, .inl ⟨hok, rfl⟩, rfl⟩, h⟩)
  rw [okG, ← hn] at hok
  rw [← hn] at HC ⊢
  have HN := Lib.hid hn
  clear hr hP hb hn
  by_cases h1 : n < 1
  · have d1 : decide ((n : Int) < 1) = true := by simp; omega
    clear hok HC
    go_enter Tryz.func46, Tryz.ntmps46
    repeat (first | go_values | go_skip | go_guarded | go_step | go_upon)
    go_ret2
    exact HF.out _ (by repeat (first | exact Below.refl _ _ | assumption | refine bal ?_ _ | refine bdr ?_ | refine bdrn ?_ _ | (refine bset ?_ (by first | exact Nat.le_refl _ | (simp; done) | (simp; omega) | omega) _) | refine bstep ?_ (by assumption)))
  · have d1 : decide ((n : Int) < 1) = false := by simp; omega
    by_cases h2 : 64 < n
    · have d2 : decide ((64 : Int) < n) = true := by simp; omega
      clear hok HC
      go_enter Tryz.func46, Tryz.ntmps46
      repeat (first | go_values | go_skip | go_guarded | go_step | go_upon)
      go_ret2
      exact HF.out _ (by repeat (first | exact Below.refl _ _ | assumption | refine bal ?_ _ | refine bdr ?_ | refine bdrn ?_ _ | (refine bset ?_ (by first | exact Nat.le_refl _ | (simp; done) | (simp; omega) | omega) _) | refine bstep ?_ (by assumption)))
    · have d2 : decide ((64 : Int) < n) = false := by simp; omega
      have hall : g.all okU = !true := by
        have e1 : decide (1 ≤ n) = true := by simp; omega
        have e2 : decide (n ≤ 64) = true := by simp; omega
        rw [e1, e2] at hok
        simpa using hok
      have HQ := Lib.hid (HC.out true hall)
      clear hok HC hall
      go_enter Tryz.func46, Tryz.ntmps46
      repeat (first | go_values | go_skip | go_guarded | go_step | go_upon)
      refine (HQ.out _ (by repeat (first | exact Below.refl _ _ | assumption | refine bal ?_ _ | refine bdr ?_ | refine bdrn ?_ _ | (refine bset ?_ (by first | exact Nat.le_refl _ | (simp; done) | (simp; omega) | omega) _) | refine bstep ?_ (by assumption)))).mono ?_
      rintro e w1 ⟨rfl, hb1⟩
      obtain ⟨hc1, hf1⟩ := bcell hb1
      have hz1 := hb1.size
      try simp at hz1
      dsimp only
      repeat (first | go_values | go_skip | go_guarded | go_step | go_upon)
      go_ret2
      exact HF.out _ (by repeat (first | exact Below.refl _ _ | assumption | refine bal ?_ _ | refine bdr ?_ | refine bdrn ?_ _ | (refine bset ?_ (by first | exact Nat.le_refl _ | (simp; done) | (simp; omega) | omega) _) | refine bstep ?_ (by assumption)))
end Go.Proofs.YtjlcoldnhbkcgaaGreatDoor
namespace Go.Proofs.YtjlcoldnhbkcgaaGreatDoor
open Go.RowKit Go.Sort

theorem txG_snoc (l : List Rr) (r : Rr) : txG (l ++ [r]) = txG l ++ txU r := by
  induction l with
  | nil => simp [txG]
  | cons m l ih => simp [txG, ih]
theorem txG_take (l : List Rr) (j : Nat) : (txG (l.take j)).length ≤ (txG l).length := by
  induction l generalizing j with
  | nil => simp
  | cons m l ih =>
    cases j with
    | zero => simp [txG]
    | succ j =>
      have := ih j
      simp only [List.take_succ_cons, txG, List.length_append]
      omega
theorem take_snocR {l : List Rr} {j : Nat} {y : Rr} (h : l[j]? = some y) : l.take (j + 1) = l.take j ++ [y] := by
  rw [List.take_add_one, h]
  rfl
/-- What stands behind j rules. -/
def PrJ (b : Nat) (g : List Rr) (W : World) (j : Nat) (wr : World) : Prop := ∃ A : List UInt8, Wr [] (txG (g.take j)) A ∧ A.length ≤ 8192 ∧ Pg b b (Lib.byteCells A) wr ∧ Below b W wr
theorem pg_ws2 (b : Nat) (A S : List UInt8) (s : ByteArray) (hs : s = ⟨S.toArray⟩) (w : World) (h : Pg b b (Lib.byteCells A) w) (hl : A.length + S.length ≤ 140000000000000) :
    Calls Tryz.prog 68 #[.pointer (some ⟨b, 0, none⟩), .string s] w fun e w' => e = .returned (.tuple #[.int .i64 (S.length : Nat), .nilIface]) ∧ Pg b b (Lib.byteCells (A ++ S)) w' ∧ Below b w w' ∧ Oth b w w' := by
  subst hs
  exact pg_ws b A S w h hl
set_option maxRecDepth 100000 in
set_option maxHeartbeats 6400000 in
theorem print_good {g : List Rr} {v : Value} {P : Nat → Prop} (w : World) (hg : Laid w) (hr : RepGr w P g v) (hP : ∀ b, P b → b < w.heap.size) (hb : Rr.bulks g ≤ 1000000000) (hok : okG g = true) : Calls Tryz.prog 46 #[.agg #[v]] w (PrP g w) := by
  obtain ⟨n, hn⟩ : ∃ n, n = g.length := ⟨_, rfl⟩
  obtain ⟨a, cap, rfl, hcap, hmax⟩ := hr.slice
  have hm1 := cell_alloc_lt
  have hok2 := hok
  rw [okG, Bool.and_eq_true, Bool.and_eq_true] at hok2
  obtain ⟨⟨hn1, hn2⟩, hall⟩ := hok2
  have hn1 := of_decide_eq_true hn1
  have hn2 := of_decide_eq_true hn2
  have HC := Lib.hid (contains_rule false (by rw [hall]; rfl) (w.alloc (.cells #[.slice a g.length cap] 24)) (hr.mono (fun b hb => RowKit.Below.heap_alloc _ _ _ (hP b hb)) (fun _ h => h)) (fun b hb => by have := hP b hb; simp; omega) hb)
  have HA := Lib.hid (fun y (hy : y ∈ g) => okU_ok (List.all_eq_true.1 hall y hy))
  have HBK := Lib.hid (fun y (hy : y ∈ g) => Nat.le_trans (bulk_rule hy) hb)
  have HR := Lib.hid hr
  have HP := Lib.hid hP
  have HG := Lib.hid hg
  have HOK := Lib.hid hok
  rw [← hn] at HC hn1 hn2 ⊢
  have HN := Lib.hid hn
  clear hr hP hb hn hok hall hg hmax hcap
  have d1 : decide ((n : Int) < 1) = false := by simp; omega
  have d2 : decide ((64 : Int) < n) = false := by simp; omega
  go_enter Tryz.func46, Tryz.ntmps46
  repeat (first | go_values | go_skip | go_guarded | go_step | go_upon)
  refine (HC.out).mono ?_
  rintro e w1 ⟨rfl, hb1⟩
  obtain ⟨hc1, hf1⟩ := bcell hb1
  have hz1 := hb1.size
  try simp at hz1
  dsimp only
  have hw1 : Below w.heap.size w w1 := (by repeat (first | exact Below.refl _ _ | assumption | refine bal ?_ _ | refine bdr ?_ | refine bdrn ?_ _ | (refine bset ?_ (by first | exact Nat.le_refl _ | (simp; done) | (simp; omega) | omega) _) | refine bstep ?_ (by assumption)))
  have c1 : w1.cell? ⟨w.heap.size, 0, none⟩ = some (.slice a n cap) := (hb1.cell (p := ⟨w.heap.size, 0, none⟩) (by simp)).trans (by simp)
  have qg : w.heap.size < w1.heap.size := by have := hb1.size; simp at this; omega
  repeat (first | go_values | go_skip | go_guarded | go_step | go_upon)
  go_loopw [28] (fun tt wr => ∃ j : Nat, tt = .int .i64 (j : Int) ∧ j ≤ n ∧ Hid (PrJ w1.heap.size g w1 j wr)) (fun tt _ => n - (intOf tt).toNat)
  case atStart => exact ⟨0, rfl, Nat.zero_le _, Lib.hid ⟨[], Wr.refl [], by simp, pg_new w1, (bal (Below.refl _ w1) _)⟩⟩
  case round =>
    obtain ⟨j, rfl, hj, hI⟩ := hrel
    obtain ⟨A, i1, i2, i3, i4⟩ := hI.out
    have hz := hw1.size
    by_cases hlt : j < n
    · have hlt2 : j < g.length := by rw [← HN.out]; exact hlt
      obtain ⟨y, hy⟩ : ∃ y, g[j]? = some y := ⟨g[j], List.getElem?_eq_getElem hlt2⟩
      have hmem := List.mem_of_getElem? hy
      rcases HR.out.parts with ⟨e, _⟩ | ⟨e, _⟩ | ⟨gg, o, cap', e, hgg, _, _, _, hr⟩
      · rw [e] at hlt2; simp at hlt2
      · rw [e] at hlt2; simp at hlt2
      · obtain rfl : a = some ⟨gg, o, none⟩ := by injection e
        have hPw : ∀ b', P b' → wr.heap[b']? = w.heap[b']? := fun b' hb' => (i4.block b' (Nat.lt_of_lt_of_le (HP.out b' hb') hz)).trans (hw1.block b' (HP.out b' hb'))
        obtain ⟨k1, t1, x1, sa, sn, sc, p1, l1, _, q0, _, a9, a0, a1, a2, a3, a4, a5, a6, a7, a8⟩ := (hr.mono (w' := wr) (P' := P) hPw (fun _ h => h) hgg).get hy
        have hoky := HA.out y hmem
        have hbky := HBK.out y hmem
        rw [Rr.bulk] at hbky
        have hnl := name_len hoky.1
        have hms := mkS_size y.name
        have qb := pg_lt i3
        have d3 : decide ((j : Int) < n) = true := by simpa using hlt
        have k5 : IntKind.i64.wrap ((j : Int) + 1) = (j : Int) + 1 := by rw [IntKind.wrap_i64]; omega
        have HE := Lib.hid (fun (A2 : List UInt8) (w2 : World) (hA : A2.length + 3000 * y.body.bulk ≤ 100000000000000) (h2 : Pg w1.heap.size w1.heap.size (Lib.byteCells A2) w2) (hw : Below w1.heap.size w1 w2) => expr_any hoky.2 w1.heap.size A2 w2 P _ (q0.mono (w' := w2) (fun b' hb' => ((hw.block b' (Nat.lt_of_lt_of_le (HP.out b' hb') hz)).trans (hw1.block b' (HP.out b' hb'))).trans (hPw b' hb').symm) (fun _ h => h)) (fun b' hb' => Nat.lt_of_lt_of_le (HP.out b' hb') hz) h2 hA hoky.2)
        have HTK := Lib.hid (take_snocR hy)
        have HI1 := Lib.hid i1
        have HI3 := Lib.hid i3
        have HI4 := Lib.hid i4
        have hse : mkS y.name ++ (⟨#[32, 60, 45, 32]⟩ : ByteArray) = ⟨(y.name ++ [32, 60, 45, 32]).toArray⟩ := ba_app y.name [32, 60, 45, 32]
        have HSE := Lib.hid hse
        clear hy hmem q0 hr e hPw hI i1 i3 i4 hoky hse
        dsimp only [trC] at HE
        repeat (first | go_values | go_skip | go_guarded | go_step | go_upon)
        refine (pg_ws2 w1.heap.size A (y.name ++ [32, 60, 45, 32]) _ HSE.out _ (pg_below HI3.out (bal (Below.refl _ wr) _)) (by simp; omega)).mono ?_
        rintro e w2 ⟨rfl, hB2, hb2, ho2⟩
        have hbx2 := oth_cell ho2 (heap_alloc_new wr _) (by omega) (by decide)
        have cB2 := (cells_at hbx2).1
        have hw2 : Below w1.heap.size w1 w2 := HI4.out.trans (((bal (Below.refl _ wr) _).mono (Nat.le_of_lt qb)).trans hb2)
        clear hbx2
        dsimp only
        repeat (first | go_values | go_skip | go_guarded | go_step | go_upon)
        refine (HE.out (A ++ (y.name ++ [32, 60, 45, 32])) w2 (by simp; omega) hB2 hw2).mono ?_
        rintro e w3 ⟨rfl, A', h1, h2, h3, h4, h5⟩
        have hl2 : A'.length ≤ 4000000000000 := by simp at h2; omega
        dsimp only
        repeat (first | go_values | go_skip | go_guarded | go_step | go_upon)
        refine (pg_wb w1.heap.size A' 10 10 w3 rfl h3 (by omega)).mono ?_
        rintro e w4 ⟨rfl, hB4, hb4, ho4⟩
        have hw4 : Below w1.heap.size w1 w4 := hw2.trans (h4.trans hb4)
        have HW : Wr [] (txG (g.take (j + 1))) (A' ++ [10]) := by
          rw [HTK.out, txG_snoc]
          have := HI1.out.trans ((Wr.put A (y.name ++ [32, 60, 45, 32])).trans (h1.trans (Wr.put A' [10])))
          simpa [txU] using this
        have HW4 := Lib.hid HW
        have q4 := pg_lt hB4
        clear HW h1 h2 h3 h5
        dsimp only
        repeat (first | go_values | go_skip | go_guarded | go_step | go_upon)
        by_cases hwide : 8192 < (A' ++ [10]).length
        · refine (wide_any _ (A' ++ [10]) true (decide_eq_true hwide) w4 hB4).mono ?_
          rintro e w5 ⟨rfl, hb5⟩
          have hfin := txG_take g (j + 1)
          have hdone := (HW4.out.done).2.1 hwide
          dsimp only
          repeat (first | go_values | go_skip | go_guarded | go_step | go_upon)
          go_ret2
          exact ⟨⟨_, .inr (.inl ⟨HOK.out, by omega, rfl⟩), rfl⟩, (hw1.trans ((hw4.mono (by omega)).trans (hb5.mono (by omega))))⟩
        · refine (wide_any _ (A' ++ [10]) false (decide_eq_false hwide) w4 hB4).mono ?_
          rintro e w5 ⟨rfl, hb5⟩
          have HF := Lib.hid (show PrJ w1.heap.size g w1 (j + 1) w5 from ⟨A' ++ [10], HW4.out, by omega, pg_below hB4 hb5, hw4.trans (hb5.mono (Nat.le_of_lt q4))⟩)
          clear hwide
          dsimp only
          repeat (first | go_values | go_skip | go_guarded | go_step | go_upon)
          exact ⟨⟨j + 1, by go_num, by omega, HF⟩, by simp [intOf]; omega⟩
    · have d3 : decide (j < n) = false := by simpa using hlt
      have hjn : j = g.length := by rw [← HN.out]; omega
      rw [hjn, List.take_length] at i1
      have hA : A = txG g := i1.done.1 i2
      have hne : A ≠ [] := by
        rw [hA]
        have hg0 : 0 < g.length := by rw [← HN.out]; omega
        match g, hg0 with
        | r :: l, _ => simp [txG, txU]
      have hbl : bl (⟨A.toArray⟩ : ByteArray) = txG g := by rw [← hA]; simp [bl]
      have hsz : (⟨A.toArray⟩ : ByteArray).size ≤ 140737488355328 := by rw [← bl_length, hbl, ← hA]; omega
      have HSZ := Lib.hid hsz
      have HBL := Lib.hid hbl
      have HAT := Lib.hid hA
      have h8 : (txG g).length ≤ 8192 := by rw [← hA]; exact i2
      have H8 := Lib.hid h8
      have HNE := Lib.hid hne
      have qb := pg_lt i3
      have HI3 := Lib.hid i3
      have HWr := Lib.hid (show Below w.heap.size w wr from hw1.trans (i4.mono hz))
      clear hlt hjn i1 i2 i3 i4 hI hA hbl hsz h8 hne
      repeat (first | go_values | go_skip | go_guarded | go_step | go_upon)
      refine (pg_string_any w1.heap.size w1.heap.size A wr HI3.out HNE.out).mono ?_
      rintro e w2 ⟨rfl, hB2, hb2, ho2⟩
      have HW2 := Lib.hid (show Below w.heap.size w w2 from HWr.out.trans (hb2.mono hz))
      have q2 := pg_lt hB2
      dsimp only
      repeat (first | go_values | go_skip | go_guarded | go_step | go_upon)
      refine (syn_any ⟨A.toArray⟩ w2 (HG.out.below HW2.out HG.out.pos) HSZ.out).mono ?_
      rintro e w3 ⟨hb3, r, hrd, hp⟩
      rw [HBL.out] at hrd
      have HRD := Lib.hid hrd
      have HW3 := Lib.hid (show Below w.heap.size w w3 from HW2.out.trans (hb3.mono HW2.out.size))
      clear hrd
      cases r with
      | inl er =>
        obtain ⟨c, x⟩ := er
        obtain ⟨p, rfl, _, _⟩ := hp
        dsimp only
        repeat (first | go_values | go_skip | go_guarded | go_step | go_upon)
        go_ret2
        exact ⟨⟨_, .inr (.inr ⟨HOK.out, H8.out, .inl ⟨_, HRD.out, rfl⟩⟩), rfl⟩, HW3.out.trans ((bal (Below.refl _ w3) _).mono HW3.out.size)⟩
      | inr hh =>
        obtain ⟨v, rfl, hG⟩ := hp
        obtain ⟨va, vcap, hv, _⟩ := hG.anyG.slice
        rw [List.length_map] at hv
        subst hv
        clear hG
        have hB3 := pg_below (pg_below hB2 hb3) (bal (Below.refl _ w3) (.cells #[.slice va hh.length vcap] 24))
        have HW4 := Lib.hid (HW3.out.trans ((bal (Below.refl _ w3) (.cells #[.slice va hh.length vcap] 24)).mono HW3.out.size))
        dsimp only
        repeat (first | go_values | go_skip | go_guarded | go_step | go_upon)
        refine (pg_string_any w1.heap.size w1.heap.size A _ hB3 HNE.out).mono ?_
        rintro e w5 ⟨rfl, hB5, hb5, ho5⟩
        dsimp only
        repeat (first | go_values | go_skip | go_guarded | go_step | go_upon)
        go_ret2
        exact ⟨⟨.inr (txG g), .inr (.inr ⟨HOK.out, H8.out, .inr ⟨_, HRD.out, rfl⟩⟩), by rw [← HAT.out]; rfl⟩, HW4.out.trans (hb5.mono hz)⟩
theorem print_any {g : List Rr} {v : Value} {P : Nat → Prop} (w : World) (hg : Laid w) (hr : RepGr w P g v) (hP : ∀ b, P b → b < w.heap.size) (hb : Rr.bulks g ≤ 1000000000) : Calls Tryz.prog 46 #[.agg #[v]] w (PrP g w) := by
  cases hok : okG g with
  | true => exact print_good w hg hr hP hb hok
  | false => exact print_bad w hr hP hb hok
end Go.Proofs.YtjlcoldnhbkcgaaGreatDoor
namespace Go.Proofs.YtjlcoldnhbkcgaaGreatDoor
open Go.RowKit Go.Sort

/-- What Expr answers, by what Print comes to. -/
def exprOf : Nat ⊕ List UInt8 → List UInt8
  | .inl _ => []
  | .inr s => (s.take (s.length - 1)).drop 5
/-- Where the text of a rule of one name is not empty. -/
theorem one_long (n : Tr) : 7 ≤ (txG [⟨[97], n, 0⟩]).length ∨ (txG [⟨[97], n, 0⟩]).length = 6 + (txT n).length := by
  right
  simp [txG, txU]
  omega
set_option maxRecDepth 100000 in
set_option maxHeartbeats 6400000 in
theorem pexpr_any {n : Tr} {c : List Value} {P : Nat → Prop} (w : World) (hg : Laid w) (hr : RepA w P n c) (hP : ∀ b, P b → b < w.heap.size) (hb : n.bulk ≤ 999999999) : Calls Tryz.prog 24 #[.agg c.toArray] w (fun e w' => (∃ r, PrRes [⟨[97], n, 0⟩] r ∧ e = .returned (.string ⟨(exprOf r).toArray⟩)) ∧ Below w.heap.size w w') := by
  obtain ⟨k, t, x, v, l, p, hn, rfl, hl⟩ := hr.form
  obtain ⟨sa, cap, rfl, _⟩ := hl.slice
  have hm1 := cell_alloc_lt
  have HG := Lib.hid hg
  have hz0 : ∀ j, j < 10 → ((w.alloc (.cells (trC k t x (.slice sa l.length cap) p).toArray 40)).alloc (.cells (Value.string (mkS [97]) :: (trC k t x (.slice sa l.length cap) p ++ [.int .i64 0])).toArray 42)).cell? ⟨w.heap.size + 1, 0 + j, none⟩ = (Value.string (mkS [97]) :: (trC k t x (.slice sa l.length cap) p ++ [.int .i64 0]))[j]? := fun j _ => by
    rw [(cells_at (allocs_new w _ _)).1, Nat.zero_add]
    simp
  have HRG := Lib.hid (RepGr.row (w := (w.alloc (.cells (trC k t x (.slice sa l.length cap) p).toArray 40)).alloc (.cells (Value.string (mkS [97]) :: (trC k t x (.slice sa l.length cap) p ++ [.int .i64 0])).toArray 42)) (P := fun b => b < w.heap.size + 2) (l := [⟨[97], n, 0⟩]) (g := w.heap.size + 1) (o := 0) (cap := 1) (by omega) (by simp) (by simp) (by simp [maxLen]) (.cons hz0 (hr.mono (fun b hb => (RowKit.Below.heap_alloc _ _ _ (by have := hP b hb; simp; omega)).trans (RowKit.Below.heap_alloc _ _ _ (hP b hb))) (fun b hb => by have := hP b hb; omega)) .nil))
  clear hg hl hz0
  dsimp only [trC]
  go_enter Tryz.func24, Tryz.ntmps24
  repeat (first | go_values | go_skip | go_guarded | go_step | go_upon)
  refine (print_any _ (HG.out.below (bal (bal (Below.refl _ w) _) _) HG.out.pos) HRG.out (by intro b hb; simp; omega) (by simp only [Rr.bulks, Rr.bulk, List.length_singleton]; omega)).mono ?_
  rintro e w2 ⟨⟨r, hr2, rfl⟩, hb2⟩
  have HR2 := Lib.hid hr2
  clear hr2
  cases r with
  | inl cc =>
    dsimp only [prVal]
    repeat (first | go_values | go_skip | go_guarded | go_step | go_upon)
    go_ret
    exact ⟨⟨_, HR2.out, rfl⟩, (by repeat (first | exact Below.refl _ _ | assumption | refine bal ?_ _ | refine bdr ?_ | refine bdrn ?_ _ | (refine bset ?_ (by first | exact Nat.le_refl _ | (simp; done) | (simp; omega) | omega) _) | refine bstep ?_ (by assumption)))⟩
  | inr s =>
    have hlen : 6 ≤ s.length ∧ s.length ≤ 8192 := by
      rcases HR2.out with ⟨_, e⟩ | ⟨_, _, e⟩ | ⟨_, h8, ⟨_, _, e⟩ | ⟨_, _, e⟩⟩
      · cases e
      · cases e
      · cases e
      · injection e with e
        subst e
        have hl6 : (txG [⟨[97], n, 0⟩]).length = 6 + (txT n).length := by simp [txG, txU]; omega
        omega
    obtain ⟨m, hm⟩ : ∃ m, s.length = m + 6 := ⟨s.length - 6, by omega⟩
    have hss : (⟨s.toArray⟩ : ByteArray).size = m + 6 := by simp [ByteArray.size, hm]
    have k5 : IntKind.i64.wrap (((m + 6 : Nat) : Int) - 1) = ((m + 5 : Nat) : Int) := by rw [IntKind.wrap_i64]; omega
    dsimp only [prVal]
    repeat (first | go_values | go_skip | go_guarded | go_step | go_upon)
    go_ret
    refine ⟨⟨_, HR2.out, ?_⟩, (by repeat (first | exact Below.refl _ _ | assumption | refine bal ?_ _ | refine bdr ?_ | refine bdrn ?_ _ | (refine bset ?_ (by first | exact Nat.le_refl _ | (simp; done) | (simp; omega) | omega) _) | refine bstep ?_ (by assumption)))⟩
    have he : (⟨s.toArray⟩ : ByteArray).extract 5 (m + 5) = ⟨(exprOf (.inr s)).toArray⟩ := by
      rw [exprOf, hm]
      apply ByteArray.ext
      simp [ByteArray.data_extract, List.extract_toArray, List.drop_take, List.extract]
    rw [← he]
    rfl
end Go.Proofs.YtjlcoldnhbkcgaaGreatDoor
namespace Go.Proofs.YtjlcoldnhbkcgaaGreatDoor
open Go.RowKit

/-- a<-(('x'))/b*!(c d), and what is printed of it. -/
def small5L : List UInt8 := [97, 60, 45, 40, 40, 39, 120, 39, 41, 41, 47, 98, 42, 33, 40, 99, 32, 100, 41]
def small5U : List UInt8 := [97, 32, 60, 45, 32, 39, 120, 39, 32, 47, 32, 98, 42, 32, 33, 40, 99, 32, 100, 41, 10]
def small5G : List Ru := [⟨[97], .mk 7 [] 0 [.mk 2 [120] 0 [] 5, .mk 6 [] 0 [.mk 9 [] 0 [.mk 5 [98] 0 [] 11] 11, .mk 12 [] 0 [.mk 6 [] 0 [.mk 5 [99] 0 [] 15, .mk 5 [100] 0 [] 17] 15] 13] 11] 5, 0⟩]
theorem small5_lexed : lexed small5L = .inr [⟨1, [97], 0, 0⟩, ⟨2, [], 0, 1⟩, ⟨5, [40], 0, 3⟩, ⟨5, [40], 0, 4⟩, ⟨3, [120], 0, 5⟩, ⟨5, [41], 0, 8⟩, ⟨5, [41], 0, 9⟩, ⟨5, [47], 0, 10⟩, ⟨1, [98], 0, 11⟩, ⟨5, [42], 0, 12⟩, ⟨5, [33], 0, 13⟩, ⟨5, [40], 0, 14⟩, ⟨1, [99], 0, 15⟩, ⟨1, [100], 0, 17⟩, ⟨5, [41], 0, 18⟩, ⟨6, [], 0, 19⟩] := by
  refine lexed_toks (by decide) ?_
  unfold toks
  rfl
theorem small5_rules : pRules 30 [⟨1, [97], 0, 0⟩, ⟨2, [], 0, 1⟩, ⟨5, [40], 0, 3⟩, ⟨5, [40], 0, 4⟩, ⟨3, [120], 0, 5⟩, ⟨5, [41], 0, 8⟩, ⟨5, [41], 0, 9⟩, ⟨5, [47], 0, 10⟩, ⟨1, [98], 0, 11⟩, ⟨5, [42], 0, 12⟩, ⟨5, [33], 0, 13⟩, ⟨5, [40], 0, 14⟩, ⟨1, [99], 0, 15⟩, ⟨1, [100], 0, 17⟩, ⟨5, [41], 0, 18⟩, ⟨6, [], 0, 19⟩] [] = some (.ok small5G [⟨6, [], 0, 19⟩]) := by
  simp [small5G, pRules, pChoice, pAlts, pParts, pPart, pOne, kindT, posT, sgnOf, preK, sufK, joinN, nameT, Nd.pos]
theorem small5_reads : Reads small5L (.inr small5G) := by
  unfold Reads
  rw [small5_lexed]
  exact ⟨30, .inr ⟨_, _, small5_rules, rfl⟩⟩
theorem small5_ok : okG (small5G.map Ru.rr) = true := by
  simp [small5G, Ru.rr, Nd.tr, Nd.trs, okG, okU, okT, okH, okL]
  decide
theorem small5_tx : txG (small5G.map Ru.rr) = small5U := by
  simp [small5G, Ru.rr, Nd.tr, Nd.trs, txG, txU, txT, pcT, pcR, paren, rankT, Tr.kind, txs, Pc.tx, postB, preB]
  rfl
theorem small5_fit : ∃ hs, Reads small5U (.inr hs) := by
  have hl : lexed small5U = .inr [⟨1, [97], 0, 0⟩, ⟨2, [], 0, 2⟩, ⟨3, [120], 0, 5⟩, ⟨5, [47], 0, 9⟩, ⟨1, [98], 0, 11⟩, ⟨5, [42], 0, 12⟩, ⟨5, [33], 0, 14⟩, ⟨5, [40], 0, 15⟩, ⟨1, [99], 0, 16⟩, ⟨1, [100], 0, 18⟩, ⟨5, [41], 0, 19⟩, ⟨6, [], 0, 21⟩] := by
    refine lexed_toks (by decide) ?_
    unfold toks
    rfl
  refine ⟨[⟨[97], .mk 7 [] 0 [.mk 2 [120] 0 [] 5, .mk 6 [] 0 [.mk 9 [] 0 [.mk 5 [98] 0 [] 11] 11, .mk 12 [] 0 [.mk 6 [] 0 [.mk 5 [99] 0 [] 16, .mk 5 [100] 0 [] 18] 16] 14] 11] 5, 0⟩], ?_⟩
  unfold Reads
  rw [hl]
  refine ⟨30, .inr ⟨_, [⟨6, [], 0, 21⟩], ?_, rfl⟩⟩
  simp [pRules, pChoice, pAlts, pParts, pPart, pOne, kindT, posT, sgnOf, preK, sufK, joinN, nameT, Nd.pos]
/-- What Print comes to, if it comes to a text. -/
theorem res_text {g : List Rr} {s : List UInt8} (h : PrRes g (.inr s)) : s = txG g ∧ okG g = true ∧ (txG g).length ≤ 8192 ∧ ∃ hs, Reads (txG g) (.inr hs) := by
  rcases h with ⟨_, e⟩ | ⟨_, _, e⟩ | ⟨h1, h2, ⟨_, _, e⟩ | ⟨hs, h3, e⟩⟩
  · cases e
  · cases e
  · cases e
  · injection e with e
    exact ⟨e, h1, h2, hs, h3⟩
/-- Where the text is read. -/
theorem res_is {g : List Rr} {x : Nat ⊕ List UInt8} (h : PrRes g x) (h1 : okG g = true) (h2 : (txG g).length ≤ 8192) {hs : List Ru} (h3 : Reads (txG g) (.inr hs)) : x = .inr (txG g) := by
  rcases h with ⟨e, _⟩ | ⟨_, e, _⟩ | ⟨_, _, ⟨_, e, _⟩ | ⟨_, _, e⟩⟩
  · rw [h1] at e; cases e
  · omega
  · cases e.det h3
  · exact e
theorem small5_res {x : Nat ⊕ List UInt8} (h : PrRes (small5G.map Ru.rr) x) : x = .inr small5U := by
  obtain ⟨hs, h3⟩ := small5_fit
  rw [← small5_tx] at h3
  have := res_is h small5_ok (by rw [small5_tx]; decide) h3
  rwa [small5_tx] at this
theorem okG_all {g : List Rr} (h : okG g = true) : (∀ r ∈ g, OkR r) ∧ 0 < g.length ∧ g.length ≤ 64 := by
  rw [okG, Bool.and_eq_true, Bool.and_eq_true] at h
  obtain ⟨⟨h1, h2⟩, h3⟩ := h
  exact ⟨fun r hr => okU_ok (List.all_eq_true.1 h3 r hr), of_decide_eq_true h1, of_decide_eq_true h2⟩
theorem ok_okG {r : Rr} (h : OkR r) : okG [r] = true := by
  simp [okG, ok_okU h]
/-- A printed grammar's text is read as it. -/
theorem res_reads {g : List Rr} {s : List UInt8} (h : PrRes g (.inr s)) : s = txG g ∧ (txG g).length ≤ 8192 ∧ ∃ hs, Reads (txG g) (.inr hs) ∧ SameR false g (hs.map Ru.rr) := by
  obtain ⟨e, h1, h2, hs, h3⟩ := res_text h
  obtain ⟨g1, g2, g3⟩ := okG_all h1
  refine ⟨e, h2, hs, h3, ?_⟩
  rw [← txs_gram] at h2 h3
  rcases gram_reads g1 g2 g3 h2 with ⟨hs2, q1, q2⟩ | ⟨x, q⟩
  · have := h3.det q1
    injection this with this
    rw [this]
    exact q2
  · cases h3.det q
theorem res_fit {g : List Rr} {s : List UInt8} (h : PrRes g (.inr s)) : ∀ r ∈ g, OkR r ∧ Fit r.body := by
  obtain ⟨_, h1, h2, hs, h3⟩ := res_text h
  obtain ⟨g1, _, _⟩ := okG_all h1
  exact fun r hr => ⟨g1 r hr, gram_fit g1 h2 h3 r hr⟩
/-- One rule. -/
theorem res_one {r : Rr} (h : OkR r) (hf : Fit r.body) (h8 : (txU r).length ≤ 8192) {x : Nat ⊕ List UInt8} (hx : PrRes [r] x) : x = .inr (txU r) := by
  have e : txG [r] = txU r := by simp [txG]
  obtain ⟨m, p, h1, _⟩ := fit_reads h.2 hf h.1 [.nl] ⟨trivial, fun u e => (by cases e), trivial⟩ rfl (fun b r e => by injection e with e1 e2; subst e1; rfl) h8
  have := res_is hx (ok_okG h) (by rw [e]; exact h8) (hs := [⟨r.name, m, p⟩]) (by rw [e]; exact h1)
  rwa [e] at this
/-- An expression's text. -/
theorem expr_is {n : Tr} (h : OkT n) (hf : Fit n) (h8 : (txT n).length + 6 ≤ 8192) {x : Nat ⊕ List UInt8} (hx : PrRes [⟨[97], n, 0⟩] x) : exprOf x = txT n := by
  have := res_one (r := ⟨[97], n, 0⟩) ⟨rfl, h⟩ hf (by simp [txU]; omega) hx
  subst this
  simp [exprOf, txU]
theorem expr_nil {n : Tr} {x : Nat ⊕ List UInt8} (hx : PrRes [⟨[97], n, 0⟩] x) : exprOf x = [] ∨ (exprOf x = txT n ∧ OkT n ∧ Fit n ∧ (txT n).length + 6 ≤ 8192) := by
  cases x with
  | inl c => exact .inl rfl
  | inr s =>
    obtain ⟨e, _, h2, _⟩ := res_text hx
    obtain ⟨h1, h3⟩ := res_fit hx _ List.mem_cons_self
    have hl : (txT n).length + 6 ≤ 8192 := by simp [txG, txU] at h2; omega
    exact .inr ⟨expr_is h1.2 h3 hl hx, h1.2, h3, hl⟩
/-- The expression's text behind a name and an arrow. -/
theorem expr_reads {n : Tr} (h : OkT n) (hf : Fit n) (h8 : (txT n).length + 6 ≤ 8192) : ∃ m x, Reads ([114, 32, 60, 45, 32] ++ txT n) (.inr [⟨[114], m, x⟩]) ∧ SameT false n m.tr := by
  have := fit_reads h hf (nm := [114]) rfl [] trivial rfl (fun b r e => by cases e) (by simp [txs]; omega)
  simpa [txs] using this
theorem txG_mem {g : List Rr} {r : Rr} (h : r ∈ g) : (txU r).length ≤ (txG g).length := by
  induction g with
  | nil => cases h
  | cons x l ih =>
    rw [txG, List.length_append]
    rcases List.mem_cons.1 h with rfl | h
    · omega
    · have := ih h; omega
end Go.Proofs.YtjlcoldnhbkcgaaGreatDoor
namespace Go.Proofs.YtjlcoldnhbkcgaaGreatDoor
open Go.RowKit

structure TokOk (t : Tok) : Prop where
  name : t.kind = 1 → isName t.text = true
  lit : t.kind = 3 → t.text.length ≤ 255
  set : t.kind = 4 → t.text = []
  cls : t.kind ≠ 4 → t.cls = 0
  len : t.text.length ≤ 255
theorem litGo_len {s : List UInt8} {q st : Nat} : ∀ {f a n : Nat} {l m : List UInt8}, litGo s q st f a l = .inr (m, n) → l.length ≤ 255 → m.length ≤ 255 := by
  intro f
  induction f with
  | zero => intro a n l m h; cases h
  | succ f ih =>
    intro a n l m h hl
    rw [litGo] at h
    split at h
    · cases h
    split at h
    · injection h with h
      injection h with h _
      rw [← h]
      exact hl
    split at h
    · cases h
    split at h
    · cases h
    · exact ih h (by rw [List.length_append, List.length_singleton]; omega)
theorem byteAt_cutn {s : List UInt8} {a n j : Nat} (h : j < n) : byteAt ((s.drop a).take n) j = byteAt s (a + j) := by
  unfold byteAt
  rw [List.getElem?_take, if_pos h, List.getElem?_drop]
theorem name_cut {s : List UInt8} {a : Nat} (ha : a ≤ s.length) (h0 : 0 < nameLen s a) (h32 : nameLen s a ≤ 32) : isName ((s.drop a).take (nameLen s a)) = true := by
  have hl : ((s.drop a).take (nameLen s a)).length = nameLen s a := by
    have := nameLen_in s a ha
    rw [List.length_take, List.length_drop]
    omega
  refine isName_of (by omega) (by omega) ?_
  rw [hl]
  refine nameLen_is (fun j hj => ?_) ?_
  · rw [Nat.zero_add, byteAt_cutn hj]
    exact (nameLen_spec s a).1 j hj
  · rw [Nat.zero_add, byteAt_ge (by omega)]
    simp [cont, isLet, isDig]
theorem tok_ok {s : List UInt8} {a n : Nat} {t : Tok} (ha : a ≤ s.length) (h : tokAt s a = .inr (t, n)) : TokOk t := by
  unfold tokAt at h
  split at h
  · cases h
  next h32 =>
  split at h
  · next h0 =>
    injection h with h
    injection h with h _
    subst h
    exact ⟨fun _ => name_cut ha h0 (by omega), (fun e => by cases e), (fun e => by cases e), fun _ => rfl, by rw [List.length_take]; omega⟩
  split at h
  · injection h with h
    injection h with h _
    subst h
    exact ⟨(fun e => by cases e), (fun e => by cases e), (fun e => by cases e), fun _ => rfl, by simp⟩
  split at h
  · injection h with h
    injection h with h _
    subst h
    exact ⟨(fun e => by cases e), (fun e => by cases e), (fun e => by cases e), fun _ => rfl, by simp⟩
  split at h
  · split at h
    · cases h
    · next e =>
      injection h with h
      injection h with h _
      subst h
      exact ⟨(fun e => by cases e), fun _ => litGo_len e (by simp), (fun e => by cases e), fun _ => rfl, litGo_len e (by simp)⟩
  split at h
  · split at h
    · cases h
    · injection h with h
      injection h with h _
      subst h
      exact ⟨(fun e => by cases e), (fun e => by cases e), fun _ => rfl, fun e => absurd rfl e, by simp⟩
  · cases h
theorem toks_ok {s : List UInt8} : ∀ {f a : Nat} {l r : List Tok}, toksGo s f a l = .inr r → (∀ t ∈ l, TokOk t) → ∀ t ∈ r, TokOk t := by
  intro f
  induction f with
  | zero => intro a l r h; cases h
  | succ f ih =>
    intro a l r h hl
    rw [toksGo] at h
    split at h
    · injection h with h
      subst h
      intro t ht
      rcases List.mem_append.1 ht with ht | ht
      · exact hl t ht
      · rw [List.mem_singleton.1 ht]
        exact ⟨(fun e => by cases e), (fun e => by cases e), (fun e => by cases e), fun _ => rfl, by simp⟩
    next ha =>
    split at h
    · exact ih h hl
    split at h
    · exact ih h hl
    split at h
    · cases h
    · next t n e =>
      refine ih h (fun u hu => ?_)
      rcases List.mem_append.1 hu with hu | hu
      · exact hl u hu
      · rw [List.mem_singleton.1 hu]
        exact tok_ok (by omega) e
theorem lexed_ok2 {s : List UInt8} {l : List Tok} (h : lexed s = .inr l) : ∀ t ∈ l, TokOk t := toks_ok (lexed_inr h).2 (fun t ht => by cases ht)
end Go.Proofs.YtjlcoldnhbkcgaaGreatDoor
