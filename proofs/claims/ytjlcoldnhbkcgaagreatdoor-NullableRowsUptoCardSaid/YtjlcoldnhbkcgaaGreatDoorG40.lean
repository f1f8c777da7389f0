/- The Refs of a tree; which rule a name means; what is wrong with a grammar's names: plain. | The places of rules by their names, as a map holds them: plain. | The places of rules by their names: the walk. | refs: the Refs of a tree, handed to a function value one behind another. | Check's closure: is a Ref's name a rule's? | printer.Right of any grammar; what Check comes to. -/
import Derived.Test.YtjlcoldnhbkcgaaGreatDoorG19
import Derived.Test.YtjlcoldnhbkcgaaGreatDoorProg
import Derived.Maps.OwnOps
import Derived.Maps.OwnSet
import Derived.StringKeys
import Derived.Test.YtjlcoldnhbkcgaaGreatDoorG4
import Derived.Test.YtjlcoldnhbkcgaaGreatDoorG36
namespace Go.Proofs.YtjlcoldnhbkcgaaGreatDoor
open Go.RowKit

mutual
/-- The Refs of a tree, from the front: their names and places. -/
def rfT : Tr → List (List UInt8 × Int)
  | .mk k t _ l p => (if k = 5 then [(t, p)] else []) ++ rfL l
def rfL : List Tr → List (List UInt8 × Int)
  | [] => []
  | n :: l => rfT n ++ rfL l
end
theorem rfL_app (l m : List Tr) : rfL (l ++ m) = rfL l ++ rfL m := by
  induction l with
  | nil => simp [rfL]
  | cons n l ih => rw [List.cons_append, rfL, rfL, ih, List.append_assoc]
theorem rfL_take {l : List Tr} {j : Nat} {y : Tr} (hy : l[j]? = some y) : rfL (l.take (j + 1)) = rfL (l.take j) ++ rfT y := by
  have e : l.take (j + 1) = l.take j ++ [y] := by rw [List.take_add_one, hy]; rfl
  rw [e, rfL_app, rfL, rfL, List.append_nil]
theorem rfL_split {l : List Tr} {j : Nat} {y : Tr} (hy : l[j]? = some y) : rfL l = rfL (l.take j) ++ (rfT y ++ rfL (l.drop (j + 1))) := by
  have h1 : l = l.take (j + 1) ++ l.drop (j + 1) := (List.take_append_drop _ _).symm
  rw [h1, rfL_app, ← h1, rfL_take hy, List.append_assoc]
/-- What is visited: up to the first one that stops it. -/
def vis (ok : List UInt8 × Int → Bool) : List (List UInt8 × Int) → List (List UInt8 × Int)
  | [] => []
  | x :: l => if ok x then x :: vis ok l else [x]
theorem vis_all {ok : List UInt8 × Int → Bool} {l : List (List UInt8 × Int)} (h : l.all ok = true) : vis ok l = l := by
  induction l with
  | nil => rfl
  | cons x l ih =>
    rw [List.all_cons, Bool.and_eq_true] at h
    rw [vis, if_pos h.1, ih h.2]
theorem vis_app {ok : List UInt8 × Int → Bool} {l m : List (List UInt8 × Int)} : vis ok (l ++ m) = if l.all ok then l ++ vis ok m else vis ok l := by
  induction l with
  | nil => rfl
  | cons x l ih =>
    rw [List.cons_append, vis, vis, List.all_cons, ih]
    cases ok x with
    | false => simp
    | true =>
      simp only [if_true, Bool.true_and]
      split <;> rfl
/-- The place of a rule. -/
def fdx (g : List Rr) (n : List UInt8) : Option Nat := g.findIdx? (fun r => r.name == n)
theorem fdx_some {g : List Rr} {n : List UInt8} {i : Nat} : fdx g n = some i ↔ (∃ y, g[i]? = some y ∧ y.name = n) ∧ ∀ j y, j < i → g[j]? = some y → y.name ≠ n := by
  induction g generalizing i with
  | nil => simp [fdx]
  | cons x g ih =>
    unfold fdx at ih ⊢
    rw [List.findIdx?_cons]
    by_cases hx : x.name = n
    · rw [if_pos (by simpa using hx)]
      constructor
      · rintro e
        obtain rfl : i = 0 := by injection e with e; exact e.symm
        exact ⟨⟨x, rfl, hx⟩, fun j y hj => absurd hj (Nat.not_lt_zero _)⟩
      · rintro ⟨_, h2⟩
        cases i with
        | zero => rfl
        | succ i => exact absurd hx (h2 0 x (Nat.succ_pos _) rfl)
    · rw [if_neg (by simpa using hx)]
      cases i with
      | zero =>
        constructor
        · intro e
          cases h : List.findIdx? (fun r => r.name == n) g with
          | none => rw [h] at e; cases e
          | some k => rw [h] at e; cases e
        · rintro ⟨⟨y, h1, h2⟩, _⟩
          simp at h1
          subst h1
          exact absurd h2 hx
      | succ i =>
        rw [Option.map_eq_some_iff]
        constructor
        · rintro ⟨k, h1, h2⟩
          obtain rfl : k = i := by omega
          obtain ⟨h3, h4⟩ := ih.1 h1
          refine ⟨by simpa using h3, fun j y hj hy => ?_⟩
          cases j with
          | zero => simp at hy; subst hy; exact hx
          | succ j => exact h4 j y (by omega) (by simpa using hy)
        · rintro ⟨h3, h4⟩
          exact ⟨i, ih.2 ⟨by simpa using h3, fun j y hj hy => h4 (j + 1) y (by omega) (by simpa using hy)⟩, rfl⟩
theorem fdx_none {g : List Rr} {n : List UInt8} : fdx g n = none ↔ ∀ y ∈ g, y.name ≠ n := by
  unfold fdx
  rw [List.findIdx?_eq_none_iff]
  simp
theorem fdx_lt {g : List Rr} {n : List UInt8} {i : Nat} (h : fdx g n = some i) : i < g.length := by
  obtain ⟨⟨y, h1, _⟩, _⟩ := fdx_some.1 h
  exact (List.getElem?_eq_some_iff.1 h1).1
/-- All names apart. -/
def Apart (g : List Rr) : Prop := ∀ i y, g[i]? = some y → fdx g y.name = some i
/-- Is a name a rule's? -/
def known (g : List Rr) (x : List UInt8 × Int) : Bool := (fdx g x.1).isSome
end Go.Proofs.YtjlcoldnhbkcgaaGreatDoor
namespace Go.Proofs.YtjlcoldnhbkcgaaGreatDoor
open Go.RowKit Go.Sort Go.Maps

theorem str_law : Keyed Tryz.prog 9 := string_keyed Tryz.underlying9
theorem int_law : Keyed Tryz.prog 3 := int_keyed Tryz.underlying3
theorem zero_int (w : World) : (zeroValue 3).run Tryz.prog w = .ok (.int .i64 0) w := by kernel_rfl
theorem key_name {l : List UInt8} (h : l.length ≤ 1000000) : keyOf Tryz.prog 9 (.string (mkS l)) = some (.string l) := by
  have := Go.WideMaps.keyOf_string_mk (P := Tryz.prog) Tryz.underlying9 (s := mkS l) (by rw [mkS_size]; unfold maxLen; omega)
  rwa [mkS_data] at this
/-- The places of the rules' names, as a map holds them. -/
def PlcD (g : List Rr) (D : DataW Unit) : Prop := ∀ n : List UInt8, Maps.has D (.string n) = (fdx g n).isSome ∧ ∀ i, fdx g n = some i → D.atKey (.string n) (.lit (.int .i64 0)) = .lit (.int .i64 (i : Int))
theorem plc_nil : PlcD [] (.map []) := fun _ => ⟨rfl, fun _ h => by cases h⟩
theorem fdx_snoc {g : List Rr} {y : Rr} {n : List UInt8} : fdx (g ++ [y]) n = (fdx g n).or (if y.name = n then some g.length else none) := by
  unfold fdx
  rw [List.findIdx?_append]
  simp [List.findIdx?_cons]
theorem name_ne {n m : List UInt8} (h : n ≠ m) : (Lit.string n) ≠ Lit.string m := fun e => h (by injection e)
theorem plc_new {g : List Rr} {D : DataW Unit} {y : Rr} (h : PlcD g D) (hD : IsMap D) (hy : fdx g y.name = none) : PlcD (g ++ [y]) (D.put (.string y.name) (.lit (.int .i64 (g.length : Int)))) := by
  intro n
  rw [fdx_snoc]
  by_cases hn : y.name = n
  · subst hn
    rw [if_pos rfl, hy, has_put_same hD (by trivial)]
    refine ⟨rfl, fun i hi => ?_⟩
    obtain rfl : i = g.length := by simpa using hi.symm
    exact atKey_put_same hD (by trivial) _ _
  · rw [if_neg hn, Option.or_none, has_put_other (name_ne (fun e => hn e.symm))]
    refine ⟨(h n).1, fun i hi => ?_⟩
    rw [atKey_put_other (name_ne (fun e => hn e.symm))]
    exact (h n).2 i hi
theorem plc_old {g : List Rr} {D : DataW Unit} {y : Rr} (h : PlcD g D) (hy : (fdx g y.name).isSome = true) : PlcD (g ++ [y]) D := by
  intro n
  rw [fdx_snoc]
  obtain ⟨k, hk⟩ := Option.isSome_iff_exists.1 hy
  by_cases hn : y.name = n
  · subst hn
    rw [hk, Option.some_or, ← hk]
    exact h _
  · rw [if_neg hn, Option.or_none]
    exact h n
theorem wf_nat {j : Nat} (h : j ≤ 1000000) : (Lit.int .i64 (j : Int)).wf = true := by
  rw [Lit.wf, Bool.and_eq_true]
  exact ⟨decide_eq_true (by show (-9223372036854775808 : Int) ≤ _; omega), decide_eq_true (by show _ ≤ (9223372036854775807 : Int); omega)⟩
theorem gtake_snoc {l : List Rr} {j : Nat} {y : Rr} (h : l[j]? = some y) : l.take (j + 1) = l.take j ++ [y] := by
  rw [List.take_add_one, h]
  rfl
end Go.Proofs.YtjlcoldnhbkcgaaGreatDoor
namespace Go.Proofs.YtjlcoldnhbkcgaaGreatDoor
open Go.RowKit Go.Sort Go.Maps

theorem map_si : Tryz.prog.underlying 70 = some (.map 9 3) := by kernel_rfl
set_option maxRecDepth 100000 in
set_option maxHeartbeats 6400000 in
theorem places_any {g : List Rr} {v : Value} {P : Nat → Prop} (w : World) (hr : RepGr w P g v) (hP : ∀ b, P b → b < w.heap.size) (hnm : ∀ y ∈ g, y.name.length ≤ 1000000) (h64 : g.length ≤ 1000000) : Calls Tryz.prog 29 #[.agg #[v]] w (fun e w' => ∃ (b : Nat) (D : DataW Unit), e = .returned (.map (some b)) ∧ w.heap.size ≤ b ∧ w'.ownsMap Tryz.prog 9 (plainElem Tryz.prog 3) b g.length D ∧ PlcD g D ∧ Below w.heap.size w w') := by
  obtain ⟨n, hn⟩ : ∃ n, n = g.length := ⟨_, rfl⟩
  obtain ⟨a, cap, rfl, hcap, hmax⟩ := hr.slice
  have HR := Lib.hid hr
  have HP := Lib.hid hP
  have HM := Lib.hid hnm
  rw [← hn] at HR h64 hcap ⊢
  have HN := Lib.hid hn
  have hm1 := cell_alloc_lt
  clear hr hP hnm hmax hn
  have hmk : ∀ w : World, (Instr.makeMap 70 none).run Tryz.prog w = .ok (.map (some w.heap.size)) (w.alloc (.map #[] 0)) := fun w => rfl
  go_enter Tryz.func29, Tryz.ntmps29
  repeat (first | go_values | go_skip | go_guarded | go_step | go_upon)
  go_loopw [12] (fun tt wr => ∃ (j : Nat) (D : DataW Unit), tt = .int .i64 (j : Int) ∧ j ≤ n ∧ Hid (wr.ownsMap Tryz.prog 9 (plainElem Tryz.prog 3) (w.heap.size + 1) j D) ∧ Hid (PlcD (g.take j) D) ∧ Below w.heap.size w wr) (fun tt _ => n - (intOf tt).toNat)
  case atStart => exact ⟨0, .map [], rfl, Nat.zero_le _, Lib.hid (by have h := World.ownsMap_made (w.alloc (.cells #[.slice a n cap] 24)) Tryz.prog 9 (plainElem (H := Unit) Tryz.prog 3); simpa using h), Lib.hid plc_nil, bal (bal (Below.refl _ w) _) _⟩
  case round =>
    obtain ⟨j, D, rfl, hj, HO, HD, hb⟩ := hrel
    have HW := Lib.hid hb
    have hz := hb.size
    clear hb
    by_cases hlt : j < n
    · have hlt2 : j < g.length := by rw [← HN.out]; exact hlt
      obtain ⟨y, hy⟩ : ∃ y, g[j]? = some y := ⟨g[j], List.getElem?_eq_getElem hlt2⟩
      have hmem := List.mem_of_getElem? hy
      rcases HR.out.parts with ⟨e, _⟩ | ⟨e, _⟩ | ⟨gg, o, cap', e, hgg, _, hcp, hmx, hr⟩
      · rw [e] at hlt2; simp at hlt2
      · rw [e] at hlt2; simp at hlt2
      · obtain rfl : a = some ⟨gg, o, none⟩ := by injection e
        obtain ⟨k1, t1, x1, sa, sn, sc, p1, l1, eb, q0, _, a9, a0, a1, a2, a3, a4, a5, a6, a7, a8⟩ := (hr.mono (w' := wr) (P' := P) (fun b' hb' => HW.out.block b' (HP.out b' hb')) (fun _ h => h) hgg).get hy
        have d1 : decide ((j : Int) < n) = true := by simpa using hlt
        have k5 : IntKind.i64.wrap ((j : Int) + 1) = (j : Int) + 1 := by rw [IntKind.wrap_i64]; omega
        clear e hr eb q0
        have hO1 := HO.out.alloc (.cells #[.string (mkS y.name), .int .i64 k1, .string (mkS t1), .int .u64 (wd x1 0), .int .u64 (wd x1 1), .int .u64 (wd x1 2), .int .u64 (wd x1 3), .slice sa sn sc, .int .i64 p1, .int .i64 y.pos] 42)
        obtain ⟨v, ps, hrun, hat⟩ := hO1.look_ok str_law map_si (zero_int _) (plainElem_int Tryz.underlying3 (by decide)) (key_name (HM.out y hmem))
        obtain ⟨c, rfl, _, _⟩ := plainElem_int_inv Tryz.underlying3 hat
        rw [(HD.out y.name).1] at hrun
        have hW1 : Below w.heap.size w (wr.alloc (.cells #[.string (mkS y.name), .int .i64 k1, .string (mkS t1), .int .u64 (wd x1 0), .int .u64 (wd x1 1), .int .u64 (wd x1 2), .int .u64 (wd x1 3), .slice sa sn sc, .int .i64 p1, .int .i64 y.pos] 42)) := HW.out.alloc hz _
        have hlen : (g.take j).length = j := by rw [List.length_take]; omega
        have HT := Lib.hid (gtake_snoc hy)
        cases hF : fdx (g.take j) y.name with
        | none =>
          rw [hF] at hrun
          obtain ⟨w2, hrun2, hown2, hg2⟩ := hO1.update str_law map_si (by unfold maxLen; omega) (key_name (HM.out y hmem)) (plainElem_int Tryz.underlying3 (a := (j : Int)) (q := .i64) (wf_nat (by omega)))
          have HO2 := Lib.hid hown2
          have HD2 := Lib.hid (show PlcD (g.take (j + 1)) (D.put (.string y.name) (.lit (.int .i64 (j : Int)))) from by
            have h := plc_new HD.out HO.out.isMap hF
            rw [hlen] at h
            rw [HT.out]
            exact h)
          have HB2 := Lib.hid (show Below w.heap.size w w2 from hW1.grown hg2 hW1.size (fun k hk => by injection hk with hk; omega))
          clear hat hF hO1 hown2 hg2 hW1 hy hmem hlen
          dsimp only [Option.isSome] at hrun
          repeat (first | go_values | go_skip | go_guarded | go_step | go_upon)
          exact ⟨⟨j + 1, _, by go_num, by omega, HO2, HD2, HB2.out⟩, by simp [intOf]; omega⟩
        | some k =>
          rw [hF] at hrun
          have HD2 := Lib.hid (show PlcD (g.take (j + 1)) D from by
            rw [HT.out]
            exact plc_old HD.out (by rw [hF]; rfl))
          have HB2 := Lib.hid hW1
          have HO2 := Lib.hid (hO1.mono (Nat.le_succ j))
          clear hat hF hO1 hW1 hy hmem hlen
          dsimp only [Option.isSome] at hrun
          repeat (first | go_values | go_skip | go_guarded | go_step | go_upon)
          exact ⟨⟨j + 1, D, by go_num, by omega, HO2, HD2, HB2.out⟩, by simp [intOf]; omega⟩
    · have d1 : decide (j < n) = false := by simpa using hlt
      obtain rfl : j = n := by omega
      have HD2 := Lib.hid (show PlcD g D by have := HD.out; rwa [HN.out, List.take_length] at this)
      clear hlt
      repeat (first | go_values | go_skip | go_guarded | go_step | go_upon)
      go_ret
      exact ⟨_, D, rfl, by omega, HO.out, HD2.out, HW.out⟩
end Go.Proofs.YtjlcoldnhbkcgaaGreatDoor
namespace Go.Proofs.YtjlcoldnhbkcgaaGreatDoor
open Go.RowKit Go.Sort

/-- All but what lies below a bound is as it was; new blocks may be laid. -/
structure Mid (n0 : Nat) (w w' : World) : Prop where
  os : w'.os = w.os
  tape : w'.tape = w.tape
  output : w'.output = w.output
  size : w.heap.size ≤ w'.heap.size
  block : ∀ k, n0 ≤ k → k < w.heap.size → w'.heap[k]? = w.heap[k]?
theorem Mid.refl (n0 : Nat) (w : World) : Mid n0 w w := ⟨rfl, rfl, rfl, Nat.le_refl _, fun _ _ _ => rfl⟩
theorem Mid.trans {n0 : Nat} {a b c : World} (h : Mid n0 a b) (k : Mid n0 b c) : Mid n0 a c :=
  ⟨k.os.trans h.os, k.tape.trans h.tape, k.output.trans h.output, Nat.le_trans h.size k.size, fun i h1 h2 => (k.block i h1 (Nat.lt_of_lt_of_le h2 h.size)).trans (h.block i h1 h2)⟩
theorem Mid.of {n0 : Nat} {a b : World} (h : Below a.heap.size a b) : Mid n0 a b := ⟨h.os, h.tape, h.output, h.size, fun i _ h2 => h.block i h2⟩
theorem Mid.below {n0 B : Nat} {a b : World} (h : Mid n0 a b) (hb : Below n0 a b) (hB : B ≤ a.heap.size) : Below B a b := ⟨h.os, h.tape, h.output, h.size, fun i hi => by
  rcases Nat.lt_or_ge i n0 with h1 | h1
  · exact hb.block i h1
  · exact h.block i h1 (Nat.lt_of_lt_of_le hi hB)⟩
/-- The value that refs is handed: a closure over two variables. -/
def fnV (g p1 p2 : Nat) : Value := .func (.func g) #[] #[.pointer (some ⟨p1, 0, none⟩), .pointer (some ⟨p2, 0, none⟩)]
/-- What the closure does with a Ref. -/
def YieldC (n0 g p1 p2 : Nat) (St : List (List UInt8 × Int) → World → Prop) (ok : List UInt8 × Int → Bool) : Prop :=
  ∀ (pre : List (List UInt8 × Int)) (x : List UInt8 × Int) (c : BitVec 256) (a : Option Addr) (m cap : Nat) (q : Bool) (W : World), pre.length ≤ 2000000000 → x.1.length ≤ 1000000 → ok x = q → n0 ≤ W.heap.size → St pre W → Calls Tryz.prog g #[.agg (trC 5 x.1 c (.slice a m cap) x.2).toArray, .pointer (some ⟨p1, 0, none⟩), .pointer (some ⟨p2, 0, none⟩)] W (fun e W' => e = .returned (.bool q) ∧ St (pre ++ [x]) W' ∧ Mid n0 W W')
/-- The contract of refs. -/
def RefC (n0 g p1 p2 : Nat) (St : List (List UInt8 × Int) → World → Prop) (ok : List UInt8 × Int → Bool) (w0 : World) (P : Nat → Prop) (n : Tr) : Prop :=
  ∀ (pre : List (List UInt8 × Int)) (c : List Value) (q : Bool) (w : World), pre.length + (rfT n).length ≤ 2000000000 → (∀ x ∈ rfT n, x.1.length ≤ 1000000) → (rfT n).all ok = q → RepA w0 P n c → n0 ≤ w.heap.size → St pre w → Calls Tryz.prog 35 #[.agg c.toArray, fnV g p1 p2] w (fun e w' => e = .returned (.bool q) ∧ St (pre ++ vis ok (rfT n)) w' ∧ Mid n0 w w')
set_option maxRecDepth 100000 in
set_option maxHeartbeats 6400000 in
/-- A node that is no Ref. -/
theorem refs_else {n0 g p1 p2 : Nat} {St : List (List UInt8 × Int) → World → Prop} {ok : List UInt8 × Int → Bool} {w0 : World} {P : Nat → Prop} (_ : ∀ args w, (callFunc g args).run Tryz.prog w = .ok (.enter g args) w) (hPt : ∀ pre W, St pre W → ∀ b, P b → W.heap[b]? = w0.heap[b]?) (hStab : ∀ pre W W', n0 ≤ W.heap.size → St pre W → Below n0 W W' → St pre W') {k p : Int} {t : List UInt8} {x : BitVec 256} {l : List Tr} {a : Option Addr} {n cap : Nat} (hn : l.length = n) (hk : (k == 5) = false) (hl : RepL w0 P l (.slice a n cap)) (_ : n ≤ cap) (hI : ∀ m ∈ l, RefC n0 g p1 p2 St ok w0 P m) (pre : List (List UInt8 × Int)) (q : Bool) (w : World) (hlen : pre.length + (rfL l).length ≤ 2000000000) (hx : ∀ x ∈ rfL l, x.1.length ≤ 1000000) (hq : (rfL l).all ok = q) (hn0 : n0 ≤ w.heap.size) (hS : St pre w) :
    Calls Tryz.prog 35 #[.agg (trC k t x (.slice a n cap) p).toArray, fnV g p1 p2] w (fun e w' => e = .returned (.bool q) ∧ St (pre ++ vis ok (rfL l)) w' ∧ Mid n0 w w') := by
  have hm1 := cell_alloc_lt
  have HN := Lib.hid hn
  have HQ := Lib.hid hq
  have HL := Lib.hid hl
  have HX := Lib.hid hx
  have HLN := Lib.hid hlen
  have HI := Lib.hid hI
  have HPt := Lib.hid hPt
  have HStab := Lib.hid hStab
  have HN0 := Lib.hid hn0
  have HS0 := Lib.hid (hStab _ w (w.alloc (.cells #[.int .i64 k, .string (mkS t), .int .u64 (wd x 0), .int .u64 (wd x 1), .int .u64 (wd x 2), .int .u64 (wd x 3), .slice a n cap, .int .i64 p] 40)) hn0 hS ((bal (Below.refl _ w) _).mono hn0))
  have HM0 := Lib.hid (show Mid n0 w (w.alloc (.cells #[.int .i64 k, .string (mkS t), .int .u64 (wd x 0), .int .u64 (wd x 1), .int .u64 (wd x 2), .int .u64 (wd x 3), .slice a n cap, .int .i64 p] 40)) from Mid.of (bal (Below.refl _ w) _))
  clear hlen hx hn hq hl hI hPt hStab hn0 hS
  dsimp only [trC, fnV]
  go_enter Tryz.func35, Tryz.ntmps35
  repeat (first | go_values | go_skip | go_guarded | go_step | go_upon)
  go_loopw [19] (fun tt wr => ∃ j : Nat, tt = .int .i64 (j : Int) ∧ j ≤ n ∧ Hid ((rfL (l.take j)).all ok = true) ∧ Hid (St (pre ++ rfL (l.take j)) wr) ∧ Mid n0 w wr) (fun tt _ => n - (intOf tt).toNat)
  case atStart => exact ⟨0, rfl, Nat.zero_le _, Lib.hid rfl, Lib.hid (by rw [List.take_zero, rfL, List.append_nil]; exact HS0.out), HM0.out⟩
  case round =>
    obtain ⟨j, rfl, hj, HA, HSt, hM⟩ := hrel
    have HM := Lib.hid hM
    have hz := hM.size
    clear hM
    by_cases hlt : j < n
    · obtain ⟨y, hy⟩ : ∃ y, l[j]? = some y := ⟨l[j]'(by rw [HN.out]; exact hlt), List.getElem?_eq_getElem (by rw [HN.out]; exact hlt)⟩
      rcases HL.out.parts with ⟨e, _⟩ | ⟨e, _⟩ | ⟨gg, o, cap', e, hgg, _, hcp, hmx, hr⟩
      · rw [e] at hy; simp at hy
      · rw [e] at hy; simp at hy
      · obtain rfl : a = some ⟨gg, o, none⟩ := by injection e
        obtain ⟨k1, t1, x1, sa, sn, sc, p1', l1, eb, q0, _, a0, a1, a2, a3, a4, a5, a6, a7⟩ := (hr.mono (w' := wr) (P' := P) (fun b' hb' => HPt.out _ wr HSt.out b' hb') (fun _ h => h) hgg).get hy
        have q1 : RepA w0 P y (trC k1 t1 x1 (.slice sa sn sc) p1') := q0.mono (fun b' hb' => (HPt.out _ wr HSt.out b' hb').symm) (fun _ h => h)
        have HC := Lib.hid (fun (q : Bool) (w' : World) (hq : (rfT y).all ok = q) (hn : n0 ≤ w'.heap.size) (hs : St (pre ++ rfL (l.take j)) w') => HI.out y (List.mem_of_getElem? hy) (pre ++ rfL (l.take j)) _ q w' (by have h1 := congrArg List.length (rfL_split hy); simp only [List.length_append] at h1 ⊢; have := HLN.out; omega) (fun x hx' => HX.out x (by rw [rfL_split hy]; exact List.mem_append_right _ (List.mem_append_left _ hx'))) hq q1 hn hs)
        have HT := Lib.hid (rfL_take hy)
        have HSp := Lib.hid (rfL_split hy)
        dsimp only [trC, fnV] at HC
        have d1 : decide ((j : Int) < n) = true := by simpa using hlt
        have k5 : IntKind.i64.wrap ((j : Int) + 1) = (j : Int) + 1 := by rw [IntKind.wrap_i64]; unfold maxLen at hmx; have := HN.out; omega
        have hS1 : St (pre ++ rfL (l.take j)) (wr.alloc (.cells #[.int .i64 k1, .string (mkS t1), .int .u64 (wd x1 0), .int .u64 (wd x1 1), .int .u64 (wd x1 2), .int .u64 (wd x1 3), .slice sa sn sc, .int .i64 p1'] 40)) := HStab.out _ wr _ (Nat.le_trans HN0.out hz) HSt.out ((bal (Below.refl _ wr) _).mono (Nat.le_trans HN0.out hz))
        have HS1 := Lib.hid hS1
        have hn1 : n0 ≤ (wr.alloc (.cells #[.int .i64 k1, .string (mkS t1), .int .u64 (wd x1 0), .int .u64 (wd x1 1), .int .u64 (wd x1 2), .int .u64 (wd x1 3), .slice sa sn sc, .int .i64 p1'] 40)).heap.size := by have := HN0.out; simp; omega
        have HN1 := Lib.hid hn1
        clear e hr eb q0 q1 hy hS1 hn1
        repeat (first | go_values | go_skip | go_guarded | go_step | go_upon)
        cases hE : (rfT y).all ok with
        | true =>
          refine (HC.out true _ hE HN1.out HS1.out).mono ?_
          rintro e w1 ⟨rfl, hs1, hm1⟩
          have HA2 := Lib.hid (show (rfL (l.take (j + 1))).all ok = true from by rw [HT.out, List.all_append, HA.out, hE]; rfl)
          have HS2 := Lib.hid (show St (pre ++ rfL (l.take (j + 1))) w1 from by rw [vis_all hE, List.append_assoc, ← HT.out] at hs1; exact hs1)
          have HM2 := Lib.hid (show Mid n0 w w1 from (HM.out.trans (Mid.of (bal (Below.refl _ wr) _))).trans hm1)
          clear hE hs1 hm1
          dsimp only
          repeat (first | go_values | go_skip | go_guarded | go_step | go_upon)
          exact ⟨⟨j + 1, by go_num, by omega, HA2, HS2, HM2.out⟩, by simp [intOf]; omega⟩
        | false =>
          refine (HC.out false _ hE HN1.out HS1.out).mono ?_
          rintro e w1 ⟨rfl, hs1, hm1⟩
          have hq2 : q = false := by
            have h1 := HQ.out
            rw [HSp.out, List.all_append, List.all_append, hE] at h1
            rw [← h1]
            simp
          subst hq2
          have HS2 := Lib.hid (show St (pre ++ vis ok (rfL l)) w1 from by
            rw [HSp.out, vis_app, if_pos HA.out, vis_app, hE, if_neg (by simp), ← List.append_assoc]
            exact hs1)
          have HM2 := Lib.hid (show Mid n0 w w1 from (HM.out.trans (Mid.of (bal (Below.refl _ wr) _))).trans hm1)
          clear hE hs1 hm1
          dsimp only
          repeat (first | go_values | go_skip | go_guarded | go_step | go_upon)
          go_ret
          exact ⟨rfl, HS2.out, HM2.out⟩
    · have d1 : decide (j < n) = false := by simpa using hlt
      have hjn : j = l.length := by rw [HN.out]; omega
      have hall : (rfL l).all ok = true := by have := HA.out; rwa [hjn, List.take_length] at this
      have hq2 : q = true := by
        have h1 := HQ.out
        rw [hall] at h1
        rw [← h1]
      subst hq2
      have HS2 := Lib.hid (show St (pre ++ vis ok (rfL l)) wr from by
        rw [vis_all hall]
        have := HSt.out
        rwa [hjn, List.take_length] at this)
      clear hlt hjn hall
      repeat (first | go_values | go_skip | go_guarded | go_step | go_upon)
      go_ret
      exact ⟨rfl, HS2.out, HM.out⟩
set_option maxRecDepth 100000 in
set_option maxHeartbeats 6400000 in
/-- A Ref. -/
theorem refs_ref {n0 g p1 p2 : Nat} {St : List (List UInt8 × Int) → World → Prop} {ok : List UInt8 × Int → Bool} {w0 : World} {P : Nat → Prop} (eg : ∀ args w, (callFunc g args).run Tryz.prog w = .ok (.enter g args) w) (hPt : ∀ pre W, St pre W → ∀ b, P b → W.heap[b]? = w0.heap[b]?) (hStab : ∀ pre W W', n0 ≤ W.heap.size → St pre W → Below n0 W W' → St pre W') (hY : YieldC n0 g p1 p2 St ok) {p : Int} {t : List UInt8} {x : BitVec 256} {l : List Tr} {a : Option Addr} {n cap : Nat} (hn : l.length = n) (hl : RepL w0 P l (.slice a n cap)) (_ : n ≤ cap) (hI : ∀ m ∈ l, RefC n0 g p1 p2 St ok w0 P m) (pre : List (List UInt8 × Int)) (q : Bool) (w : World) (hlen : pre.length + 1 + (rfL l).length ≤ 2000000000) (hxt : t.length ≤ 1000000) (hx : ∀ x ∈ rfL l, x.1.length ≤ 1000000) (hq : ((t, p) :: rfL l).all ok = q) (hn0 : n0 ≤ w.heap.size) (hS : St pre w) :
    Calls Tryz.prog 35 #[.agg (trC 5 t x (.slice a n cap) p).toArray, fnV g p1 p2] w (fun e w' => e = .returned (.bool q) ∧ St (pre ++ vis ok ((t, p) :: rfL l)) w' ∧ Mid n0 w w') := by
  have hm1 := cell_alloc_lt
  have hb0 : n0 ≤ (w.alloc (.cells #[.int .i64 5, .string (mkS t), .int .u64 (wd x 0), .int .u64 (wd x 1), .int .u64 (wd x 2), .int .u64 (wd x 3), .slice a n cap, .int .i64 p] 40)).heap.size := by simp; omega
  have HS1 := Lib.hid (hStab _ w (w.alloc (.cells #[.int .i64 5, .string (mkS t), .int .u64 (wd x 0), .int .u64 (wd x 1), .int .u64 (wd x 2), .int .u64 (wd x 3), .slice a n cap, .int .i64 p] 40)) hn0 hS ((bal (Below.refl _ w) _).mono hn0))
  have HM1 := Lib.hid (show Mid n0 w (w.alloc (.cells #[.int .i64 5, .string (mkS t), .int .u64 (wd x 0), .int .u64 (wd x 1), .int .u64 (wd x 2), .int .u64 (wd x 3), .slice a n cap, .int .i64 p] 40)) from Mid.of (bal (Below.refl _ w) _))
  have HYC := Lib.hid (fun (q : Bool) (hok : ok (t, p) = q) => hY pre (t, p) x a n cap q (w.alloc (.cells #[.int .i64 5, .string (mkS t), .int .u64 (wd x 0), .int .u64 (wd x 1), .int .u64 (wd x 2), .int .u64 (wd x 3), .slice a n cap, .int .i64 p] 40)) (by omega) hxt hok hb0 HS1.out)
  have HN := Lib.hid hn
  have HQ0 := Lib.hid hq
  have HL := Lib.hid hl
  have HX := Lib.hid hx
  have HLN := Lib.hid hlen
  have HI := Lib.hid hI
  have HPt := Lib.hid hPt
  have HStab := Lib.hid hStab
  have HN0 := Lib.hid hn0
  clear hlen hx hn hq hl hI hPt hStab hn0 hS hY hb0
  dsimp only [trC] at HYC
  dsimp only [trC, fnV]
  go_enter Tryz.func35, Tryz.ntmps35
  repeat (first | go_values | go_skip | go_guarded | go_step | go_upon)
  cases hok : ok (t, p) with
  | false =>
    have hq2 : q = false := by
      have h1 := HQ0.out
      rw [List.all_cons, hok] at h1
      exact h1.symm
    subst hq2
    refine (HYC.out false hok).mono ?_
    rintro e w1 ⟨rfl, hs1, hm1'⟩
    have HS2 := Lib.hid (show St (pre ++ vis ok ((t, p) :: rfL l)) w1 from by rw [vis, hok, if_neg (by simp)]; exact hs1)
    have HM2 := Lib.hid (HM1.out.trans hm1')
    clear hok hs1 hm1'
    dsimp only
    repeat (first | go_values | go_skip | go_guarded | go_step | go_upon)
    go_ret
    exact ⟨rfl, HS2.out, HM2.out⟩
  | true =>
    refine (HYC.out true hok).mono ?_
    rintro e w1 ⟨rfl, hs1, hm1'⟩
    have HQ := Lib.hid (show (rfL l).all ok = q from by
      have h1 := HQ0.out
      rw [List.all_cons, hok, Bool.true_and] at h1
      exact h1)
    have HS0 := Lib.hid hs1
    have HM0 := Lib.hid (HM1.out.trans hm1')
    have HV := Lib.hid (show pre ++ vis ok ((t, p) :: rfL l) = (pre ++ [(t, p)]) ++ vis ok (rfL l) from by rw [vis, hok, if_pos rfl]; simp)
    have hb1 : w.heap.size + 1 ≤ w1.heap.size := by have := hm1'.size; simp at this; exact this
    have c1 : w1.heap[w.heap.size]? = some (.cells #[.int .i64 5, .string (mkS t), .int .u64 (wd x 0), .int .u64 (wd x 1), .int .u64 (wd x 2), .int .u64 (wd x 3), .slice a n cap, .int .i64 p] 40 (0, 0)) := (hm1'.block _ HN0.out (by simp)).trans (heap_alloc_new w _)
    have c6 : w1.cell? ⟨w.heap.size, 6, none⟩ = some (.slice a n cap) := (cells_at c1).1 6
    clear hok hs1 hm1' c1
    dsimp only
    repeat (first | go_values | go_skip | go_guarded | go_step | go_upon)
    go_loopw [19] (fun tt wr => ∃ j : Nat, tt = .int .i64 (j : Int) ∧ j ≤ n ∧ Hid ((rfL (l.take j)).all ok = true) ∧ Hid (St ((pre ++ [(t, p)]) ++ rfL (l.take j)) wr) ∧ Mid n0 w wr) (fun tt _ => n - (intOf tt).toNat)
    case atStart => exact ⟨0, rfl, Nat.zero_le _, Lib.hid rfl, Lib.hid (by rw [List.take_zero, rfL, List.append_nil]; exact HS0.out), HM0.out⟩
    case round =>
      obtain ⟨j, rfl, hj, HA, HSt, hM⟩ := hrel
      have HM := Lib.hid hM
      have hz := hM.size
      clear hM
      by_cases hlt : j < n
      · obtain ⟨y, hy⟩ : ∃ y, l[j]? = some y := ⟨l[j]'(by rw [HN.out]; exact hlt), List.getElem?_eq_getElem (by rw [HN.out]; exact hlt)⟩
        rcases HL.out.parts with ⟨e, _⟩ | ⟨e, _⟩ | ⟨gg, o, cap', e, hgg, _, hcp, hmx, hr⟩
        · rw [e] at hy; simp at hy
        · rw [e] at hy; simp at hy
        · obtain rfl : a = some ⟨gg, o, none⟩ := by injection e
          obtain ⟨k1, t1, x1, sa, sn, sc, p1', l1, eb, q0, _, a0, a1, a2, a3, a4, a5, a6, a7⟩ := (hr.mono (w' := wr) (P' := P) (fun b' hb' => HPt.out _ wr HSt.out b' hb') (fun _ h => h) hgg).get hy
          have q1 : RepA w0 P y (trC k1 t1 x1 (.slice sa sn sc) p1') := q0.mono (fun b' hb' => (HPt.out _ wr HSt.out b' hb').symm) (fun _ h => h)
          have HC := Lib.hid (fun (q : Bool) (w' : World) (hq : (rfT y).all ok = q) (hn : n0 ≤ w'.heap.size) (hs : St ((pre ++ [(t, p)]) ++ rfL (l.take j)) w') => HI.out y (List.mem_of_getElem? hy) ((pre ++ [(t, p)]) ++ rfL (l.take j)) _ q w' (by have h1 := congrArg List.length (rfL_split hy); simp only [List.length_append, List.length_singleton] at h1 ⊢; have := HLN.out; omega) (fun x hx' => HX.out x (by rw [rfL_split hy]; exact List.mem_append_right _ (List.mem_append_left _ hx'))) hq q1 hn hs)
          have HT := Lib.hid (rfL_take hy)
          have HSp := Lib.hid (rfL_split hy)
          dsimp only [trC, fnV] at HC
          have d1 : decide ((j : Int) < n) = true := by simpa using hlt
          have k5 : IntKind.i64.wrap ((j : Int) + 1) = (j : Int) + 1 := by rw [IntKind.wrap_i64]; unfold maxLen at hmx; have := HN.out; omega
          have hS1 : St ((pre ++ [(t, p)]) ++ rfL (l.take j)) (wr.alloc (.cells #[.int .i64 k1, .string (mkS t1), .int .u64 (wd x1 0), .int .u64 (wd x1 1), .int .u64 (wd x1 2), .int .u64 (wd x1 3), .slice sa sn sc, .int .i64 p1'] 40)) := HStab.out _ wr _ (Nat.le_trans HN0.out hz) HSt.out ((bal (Below.refl _ wr) _).mono (Nat.le_trans HN0.out hz))
          have HS1 := Lib.hid hS1
          have hn1 : n0 ≤ (wr.alloc (.cells #[.int .i64 k1, .string (mkS t1), .int .u64 (wd x1 0), .int .u64 (wd x1 1), .int .u64 (wd x1 2), .int .u64 (wd x1 3), .slice sa sn sc, .int .i64 p1'] 40)).heap.size := by have := HN0.out; simp; omega
          have HN1 := Lib.hid hn1
          clear e hr eb q0 q1 hy hS1 hn1
          repeat (first | go_values | go_skip | go_guarded | go_step | go_upon)
          cases hE : (rfT y).all ok with
          | true =>
            refine (HC.out true _ hE HN1.out HS1.out).mono ?_
            rintro e w1 ⟨rfl, hs1, hm1⟩
            have HA2 := Lib.hid (show (rfL (l.take (j + 1))).all ok = true from by rw [HT.out, List.all_append, HA.out, hE]; rfl)
            have HS2 := Lib.hid (show St ((pre ++ [(t, p)]) ++ rfL (l.take (j + 1))) w1 from by rw [vis_all hE, List.append_assoc, ← HT.out] at hs1; exact hs1)
            have HM2 := Lib.hid (show Mid n0 w w1 from (HM.out.trans (Mid.of (bal (Below.refl _ wr) _))).trans hm1)
            clear hE hs1 hm1
            dsimp only
            repeat (first | go_values | go_skip | go_guarded | go_step | go_upon)
            exact ⟨⟨j + 1, by go_num, by omega, HA2, HS2, HM2.out⟩, by simp [intOf]; omega⟩
          | false =>
            refine (HC.out false _ hE HN1.out HS1.out).mono ?_
            rintro e w1 ⟨rfl, hs1, hm1⟩
            have hq2 : q = false := by
              have h1 := HQ.out
              rw [HSp.out, List.all_append, List.all_append, hE] at h1
              rw [← h1]
              simp
            subst hq2
            have HS2 := Lib.hid (show St ((pre ++ [(t, p)]) ++ vis ok (rfL l)) w1 from by
              rw [HSp.out, vis_app, if_pos HA.out, vis_app, hE, if_neg (by simp), ← List.append_assoc]
              exact hs1)
            have HM2 := Lib.hid (show Mid n0 w w1 from (HM.out.trans (Mid.of (bal (Below.refl _ wr) _))).trans hm1)
            clear hE hs1 hm1
            dsimp only
            repeat (first | go_values | go_skip | go_guarded | go_step | go_upon)
            go_ret
            exact ⟨rfl, (by rw [HV.out]; exact HS2.out), HM2.out⟩
      · have d1 : decide (j < n) = false := by simpa using hlt
        have hjn : j = l.length := by rw [HN.out]; omega
        have hall : (rfL l).all ok = true := by have := HA.out; rwa [hjn, List.take_length] at this
        have hq2 : q = true := by
          have h1 := HQ.out
          rw [hall] at h1
          rw [← h1]
        subst hq2
        have HS2 := Lib.hid (show St ((pre ++ [(t, p)]) ++ vis ok (rfL l)) wr from by
          rw [vis_all hall]
          have := HSt.out
          rwa [hjn, List.take_length] at this)
        clear hlt hjn hall
        repeat (first | go_values | go_skip | go_guarded | go_step | go_upon)
        go_ret
        exact ⟨rfl, (by rw [HV.out]; exact HS2.out), HM.out⟩
theorem refs_node {n0 g p1 p2 : Nat} {St : List (List UInt8 × Int) → World → Prop} {ok : List UInt8 × Int → Bool} {w0 : World} {P : Nat → Prop} (eg : ∀ args w, (callFunc g args).run Tryz.prog w = .ok (.enter g args) w) (hPt : ∀ pre W, St pre W → ∀ b, P b → W.heap[b]? = w0.heap[b]?) (hStab : ∀ pre W W', n0 ≤ W.heap.size → St pre W → Below n0 W W' → St pre W') (hY : YieldC n0 g p1 p2 St ok) : ∀ (k : Nat) (n : Tr), SizeOf.sizeOf n ≤ k → RefC n0 g p1 p2 St ok w0 P n := by
  intro k
  induction k with
  | zero => intro n hn; cases n; simp at hn
  | succ k ih =>
    intro n hn pre c q w hlen hx hq h1 hn0 hS
    cases h1 with
    | @mk kk t x l p v r1 =>
      obtain ⟨a, cap, rfl, hcap, _⟩ := r1.slice
      have hI : ∀ m ∈ l, RefC n0 g p1 p2 St ok w0 P m := fun m hm => ih m (by
        have e1 : SizeOf.sizeOf m < SizeOf.sizeOf l := List.sizeOf_lt_of_mem hm
        rw [Tr.mk.sizeOf_spec] at hn
        omega)
      cases hk : (kk == 5) with
      | true =>
        obtain rfl := eq_of_beq hk
        have e : rfT (.mk 5 t x l p) = (t, p) :: rfL l := by rw [rfT, if_pos rfl]; rfl
        rw [e] at hq hx hlen ⊢
        exact refs_ref eg hPt hStab hY rfl r1 hcap hI pre q w (by simp only [List.length_cons] at hlen; omega) (hx (t, p) List.mem_cons_self) (fun x h => hx x (List.mem_cons_of_mem _ h)) hq hn0 hS
      | false =>
        have e : rfT (.mk kk t x l p) = rfL l := by rw [rfT, if_neg (fun e => by subst e; simp at hk)]; rfl
        rw [e] at hq hx hlen ⊢
        exact refs_else eg hPt hStab rfl hk r1 hcap hI pre q w hlen hx hq hn0 hS
/-- refs of any tree, with any closure over two variables. -/
theorem refs_any {n0 g p1 p2 : Nat} {St : List (List UInt8 × Int) → World → Prop} {ok : List UInt8 × Int → Bool} {w0 : World} {P : Nat → Prop} (eg : ∀ args w, (callFunc g args).run Tryz.prog w = .ok (.enter g args) w) (hPt : ∀ pre W, St pre W → ∀ b, P b → W.heap[b]? = w0.heap[b]?) (hStab : ∀ pre W W', n0 ≤ W.heap.size → St pre W → Below n0 W W' → St pre W') (hY : YieldC n0 g p1 p2 St ok) (n : Tr) : RefC n0 g p1 p2 St ok w0 P n := refs_node eg hPt hStab hY (SizeOf.sizeOf n) n (Nat.le_refl _)
end Go.Proofs.YtjlcoldnhbkcgaaGreatDoor
namespace Go.Proofs.YtjlcoldnhbkcgaaGreatDoor
open Go.RowKit Go.Sort Go.Maps

/-- Where the last Ref stood. -/
def lastAt (pre : List (List UInt8 × Int)) : Int := (pre.getLast?.map (·.2)).getD 0
theorem lastAt_snoc (pre : List (List UInt8 × Int)) (x : List UInt8 × Int) : lastAt (pre ++ [x]) = x.2 := by simp [lastAt]
theorem vis_fail {ok : List UInt8 × Int → Bool} {l : List (List UInt8 × Int)} (h : l.all ok = false) : ∃ l1 x l2, l = l1 ++ x :: l2 ∧ l1.all ok = true ∧ ok x = false ∧ vis ok l = l1 ++ [x] := by
  induction l with
  | nil => cases h
  | cons y l ih =>
    cases hy : ok y with
    | false => exact ⟨[], y, l, rfl, rfl, hy, by rw [vis, hy, if_neg (by simp)]; rfl⟩
    | true =>
      rw [List.all_cons, hy, Bool.true_and] at h
      obtain ⟨l1, x, l2, h1, h2, h3, h4⟩ := ih h
      exact ⟨y :: l1, x, l2, by rw [h1]; rfl, by rw [List.all_cons, hy, h2]; rfl, h3, by rw [vis, hy, if_pos rfl, h4]; rfl⟩
/-- What stands while Check goes through a tree. -/
structure CkS (n0 ab : Nat) (w0 : World) (pre : List (List UInt8 × Int)) (W : World) : Prop where
  other : ∀ b, b < n0 → b ≠ ab → W.heap[b]? = w0.heap[b]?
  at_ : W.heap[ab]? = some (.cells #[.int .i64 (lastAt pre)] 3 (0, 0))
theorem owns_same {w w' : World} {k : TypeId} {R : Value → Option (DataW Unit × List MemPlace)} {b n : Nat} {D : DataW Unit} (h : w.ownsMap Tryz.prog k R b n D) (e : w'.heap[b]? = w.heap[b]?) : w'.ownsMap Tryz.prog k R b n D := by
  obtain ⟨es, clock, hb, F, hs, hD⟩ := h
  exact ⟨es, clock, e.trans hb, F, hs, hD⟩
theorem cks_stab {n0 ab : Nat} {w0 : World} (hab : ab < n0) : ∀ pre W W', n0 ≤ W.heap.size → CkS n0 ab w0 pre W → Below n0 W W' → CkS n0 ab w0 pre W' := fun _ _ _ _ h hb =>
  ⟨fun b hb' hne => (hb.block b hb').trans (h.other b hb' hne), (hb.block ab hab).trans h.at_⟩
set_option maxRecDepth 100000 in
set_option maxHeartbeats 6400000 in
theorem check1_any {g : List Rr} {D : DataW Unit} {m mb ab n0 : Nat} {w0 : World} (hD : PlcD g D) (hown : w0.ownsMap Tryz.prog 9 (plainElem Tryz.prog 3) m g.length D) (hbox : w0.heap[mb]? = some (.cells #[.map (some m)] 70 (0, 0))) (hm : m < n0) (hmb : mb < n0) (hab : ab < n0) (hma : m ≠ ab) (hba : mb ≠ ab) :
    YieldC n0 36 mb ab (CkS n0 ab w0) (known g) := by
  intro pre x c a n cap q W _ hxl hq hn0 hS
  obtain ⟨h1, h4⟩ := hS
  obtain ⟨t, p⟩ := x
  have hm1 := cell_alloc_lt
  have h2 := owns_same hown (h1 m hm hma)
  have h3 := (h1 mb hmb hba).trans hbox
  have hO1 := h2.alloc (.cells #[.int .i64 5, .string (mkS t), .int .u64 (wd c 0), .int .u64 (wd c 1), .int .u64 (wd c 2), .int .u64 (wd c 3), .slice a n cap, .int .i64 p] 40)
  obtain ⟨v, ps, hrun, hat⟩ := hO1.look_ok str_law map_si (zero_int _) (plainElem_int Tryz.underlying3 (by decide)) (key_name hxl)
  obtain ⟨cc, rfl, _, _⟩ := plainElem_int_inv Tryz.underlying3 hat
  rw [(hD t).1, show (fdx g t).isSome = q from hq] at hrun
  have b1 := (cells_at h3).1 0
  have b2 := (cells_at h3).2.2
  have f1 := (cells_at h4).1 0
  have f2 := (cells_at h4).2.1
  have f3 := (cells_at h4).2.2
  have H1 := Lib.hid h1
  have H4 := Lib.hid h4
  clear h1 h2 h3 h4 hat hO1 hq hown hbox
  dsimp only [trC]
  go_enter Tryz.func36, Tryz.ntmps36
  repeat (first | go_values | go_skip | go_guarded | go_step | go_upon)
  go_ret
  have hlt : ∀ b, b < n0 → b < W.heap.size := fun b hb => Nat.lt_of_lt_of_le hb hn0
  have hE : ∀ b, b < W.heap.size → b ≠ ab → ((W.setCell ⟨ab, 0, none⟩ (.int .i64 p)).alloc (.cells #[.int .i64 5, .string (mkS t), .int .u64 (wd c 0), .int .u64 (wd c 1), .int .u64 (wd c 2), .int .u64 (wd c 3), .slice a n cap, .int .i64 p] 40)).heap[b]? = W.heap[b]? := fun b hb hne => (RowKit.Below.heap_alloc _ _ _ (by simpa using hb)).trans (heap_setCell_other _ _ _ _ hne)
  refine ⟨rfl, ⟨fun b hb hne => (hE b (hlt b hb) hne).trans (H1.out b hb hne), ?_⟩, ?_⟩
  · rw [lastAt_snoc]
    exact (RowKit.Below.heap_alloc _ _ _ (by simpa using hlt ab hab)).trans (heap_setCell_same _ ab 0 _ _ (.int .i64 p) H4.out)
  · exact ⟨rfl, by simp, rfl, by simp, fun k h1 h2 => hE k h2 (by omega)⟩
end Go.Proofs.YtjlcoldnhbkcgaaGreatDoor
namespace Go.Proofs.YtjlcoldnhbkcgaaGreatDoor
open Go.RowKit Go.Sort

/-- What Check comes to. -/
inductive Ck where
  | ok
  | errno (c : Nat)
  | fault (c : Nat) (at_ : Int)
def CkRes (g : List Rr) (r : Ck) : Prop :=
  (∃ c, PrRes g (.inl c) ∧ r = .errno c) ∨
  (∃ s i y, PrRes g (.inr s) ∧ g[i]? = some y ∧ fdx g y.name ≠ some i ∧ r = .fault 30 y.pos) ∨
  (∃ s y x l1 l2, PrRes g (.inr s) ∧ Apart g ∧ y ∈ g ∧ rfT y.body = l1 ++ x :: l2 ∧ l1.all (known g) = true ∧ known g x = false ∧ r = .fault 31 x.2) ∨
  (∃ s, PrRes g (.inr s) ∧ Apart g ∧ (∀ y ∈ g, (rfT y.body).all (known g) = true) ∧ r = .ok)
def rtVal : Nat ⊕ List UInt8 → Value
  | .inl c => .iface 66 (.int .i64 (c : Nat))
  | .inr _ => .nilIface
set_option maxRecDepth 100000 in
set_option maxHeartbeats 3200000 in
theorem right_any {g : List Rr} {v : Value} {P : Nat → Prop} (w : World) (hg : Laid w) (hr : RepGr w P g v) (hP : ∀ b, P b → b < w.heap.size) (hb : Rr.bulks g ≤ 1000000000) : Calls Tryz.prog 34 #[.agg #[v]] w (fun e w' => (∃ r, PrRes g r ∧ e = .returned (rtVal r)) ∧ Below w.heap.size w w') := by
  obtain ⟨a, cap, rfl, _⟩ := hr.slice
  have HX := Lib.hid (fun (w' : World) (h : Below w.heap.size w w') => print_any w' (hg.below h hg.pos) (hr.on hP h) (fun b hb => Nat.lt_of_lt_of_le (hP b hb) h.size) hb)
  have hm1 := cell_alloc_lt
  clear hg hr hP hb
  go_enter Tryz.func34, Tryz.ntmps34
  repeat (first | go_values | go_skip | go_guarded | go_step | go_upon)
  refine (HX.out _ (by repeat (first | exact Below.refl _ _ | assumption | refine bal ?_ _ | refine bdr ?_ | refine bdrn ?_ _ | (refine bset ?_ (by first | exact Nat.le_refl _ | (simp; done) | (simp; omega) | omega) _) | refine bstep ?_ (by assumption)))).mono ?_
  rintro e w2 ⟨⟨r, hr2, rfl⟩, hb2⟩
  have HR2 := Lib.hid hr2
  clear hr2
  cases r with
  | inl c =>
    dsimp only [prVal]
    repeat (first | go_values | go_skip | go_guarded | go_step | go_upon)
    go_ret
    exact ⟨⟨_, HR2.out, rfl⟩, (by repeat (first | exact Below.refl _ _ | assumption | refine bal ?_ _ | refine bdr ?_ | refine bdrn ?_ _ | (refine bset ?_ (by first | exact Nat.le_refl _ | (simp; done) | (simp; omega) | omega) _) | refine bstep ?_ (by assumption)))⟩
  | inr s =>
    dsimp only [prVal]
    repeat (first | go_values | go_skip | go_guarded | go_step | go_upon)
    go_ret
    exact ⟨⟨_, HR2.out, rfl⟩, (by repeat (first | exact Below.refl _ _ | assumption | refine bal ?_ _ | refine bdr ?_ | refine bdrn ?_ _ | (refine bset ?_ (by first | exact Nat.le_refl _ | (simp; done) | (simp; omega) | omega) _) | refine bstep ?_ (by assumption)))⟩
end Go.Proofs.YtjlcoldnhbkcgaaGreatDoor
