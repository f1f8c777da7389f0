/- printer.node and printer.rule tell whether a tree, a rule, may be printed. | A class among the arguments of a row: it is some class. | A tree, and a grammar, among the arguments of a row: it is some tree, and no larger than what the reading holds. | printer.rule and the search for a rule that may not be printed. -/
import Derived.Test.YtjlcoldnhbkcgaaGreatDoorG31
import Derived.Test.YtjlcoldnhbkcgaaGreatDoorG32
import Derived.Test.YtjlcoldnhbkcgaaGreatDoorRows
import Derived.Test.YtjlcoldnhbkcgaaGreatDoorG0
import Derived.ProofKit
import Derived.OpenShut
import Derived.Lib.SmallJoins
import Derived.Test.YtjlcoldnhbkcgaaGreatDoorG19
import Derived.Test.YtjlcoldnhbkcgaaGreatDoorG27
import Derived.ChangeArms
namespace Go.Proofs.YtjlcoldnhbkcgaaGreatDoor
open Go.RowKit Go.Sort

theorem node_step {k p : Int} {t : List UInt8} {c : BitVec 256} {a : Option Addr} {n cap : Nat} {q : Bool} (w : World) (ht : t.length ≤ 1000000000) (hmax : n ≤ 140737488355328)
    (HC : ∀ q2, q = !q2 → ∀ w', Below w.heap.size w w' → Calls Tryz.prog 118 #[.slice a n cap, .func (.func 119) #[] #[]] w' (Ans (.bool q2) w')) : Calls Tryz.prog 88 #[.agg (trC k t c (.slice a n cap) p).toArray] w (Ans (.bool (okH k t c n && q)) w) := by
  by_cases h3 : k = 3
  · subst h3; exact node_k3 w ht hmax HC
  by_cases hc : c = 0
  · by_cases h1 : k = 1
    · subst h1; exact node_k1 hc w ht hmax HC
    by_cases h2 : k = 2
    · subst h2; exact node_k2 hc w ht hmax HC
    by_cases h4 : k = 4
    · subst h4; exact node_k4 hc w ht hmax HC
    by_cases h5 : k = 5
    · subst h5; exact node_k5 hc w ht hmax HC
    by_cases h6 : k = 6
    · subst h6; exact node_k6 hc w ht hmax HC
    by_cases h7 : k = 7
    · subst h7; exact node_k7 hc w ht hmax HC
    by_cases h8 : k = 8
    · subst h8; exact node_k8 hc w ht hmax HC
    by_cases h9 : k = 9
    · subst h9; exact node_k9 hc w ht hmax HC
    by_cases h10 : k = 10
    · subst h10; exact node_k10 hc w ht hmax HC
    by_cases h11 : k = 11
    · subst h11; exact node_k11 hc w ht hmax HC
    by_cases h12 : k = 12
    · subst h12; exact node_k12 hc w ht hmax HC
    · exact node_ko hc h3 h1 h2 h4 h5 h6 h7 h8 h9 h10 h11 h12 w ht hmax HC
  · exact node_kc hc h3 w ht hmax HC
theorem bulks_len (l : List Tr) : l.length ≤ Tr.bulks l := by
  induction l with
  | nil => exact Nat.zero_le _
  | cons n l ih =>
    cases n
    rw [Tr.bulks, Tr.bulk, List.length_cons]
    omega
theorem node_size : ∀ (k : Nat) (n : Tr), SizeOf.sizeOf n ≤ k → NodeC n := by
  intro k
  induction k with
  | zero => intro n hn; cases n; simp at hn
  | succ k ih =>
    intro n hn w P c hr hP hb
    obtain ⟨kk, t, x, v, l, p, rfl, rfl, hl⟩ := hr.form
    obtain ⟨a, cap, rfl, hcap, _⟩ := hl.slice
    rw [Tr.bulk] at hb
    rw [okT]
    refine node_step w (by omega) (by have := bulks_len l; omega) (fun q2 hq w' h => ?_)
    have := contains_node w' (hl.mono (fun b hb => h.block b (hP b hb)) (fun _ h => h)) (fun b hb => Nat.lt_of_lt_of_le (hP b hb) h.size) (by omega) (fun m hm => ih m (by
      have e1 : SizeOf.sizeOf m < SizeOf.sizeOf l := List.sizeOf_lt_of_mem hm
      rw [Tr.mk.sizeOf_spec] at hn
      omega))
    rw [hq, Bool.not_not] at this
    exact this
theorem node_any (n : Tr) : NodeC n := node_size (SizeOf.sizeOf n) n (Nat.le_refl _)
end Go.Proofs.YtjlcoldnhbkcgaaGreatDoor
namespace Go.Proofs.YtjlcoldnhbkcgaaGreatDoor
open Go.ChangeShapes Go.WideShapes Go.RowKit Go.Joins
theorem own : ownKnob Tryz.prog.godebug = none := by kernel_rfl
theorem laidOut : laidOutB Tryz.prog = true := by kernel_rfl
theorem cells_word : Tryz.prog.cellsOf 35 = 1 := by kernel_rfl
set_option maxRecDepth 100000 in
theorem open_cls {H : Type} {enc : TypeId × Value → H} {w : World} {r : Reach} {b0 base : Nat} {spare : Nat → Bool} {held : Bool} {v : Value} {d : DataW H} {p : List MemPlace} (hv : Value.okWide Tryz.prog w r b0 37 v) (h : DataW.Trod enc Tryz.prog w base spare held 37 v d p) :
    ∃ c : BitVec 256, v = .agg #[.int .u64 (wd c 0), .int .u64 (wd c 1), .int .u64 (wd c 2), .int .u64 (wd c 3)] := by
  obtain ⟨cs, rfl, hsz⟩ : ∃ cs, v = .agg cs ∧ cs.size = 4 := by
    simp only [Value.okWide, Tryz.underlying37] at hv
    obtain ⟨cs, h1, h2, _⟩ := hv
    exact ⟨cs, h1, h2.trans (by kernel_rfl)⟩
  obtain ⟨c0, c1, c2, c3, rfl⟩ := array4 hsz
  obtain ⟨fuel, hf⟩ := h
  obtain ⟨xs, m, _, _, _, hl, hg⟩ := DataW.trod_array Tryz.underlying37 hf
  rw [cells_word] at hg
  have one : ∀ (i : Nat) (ci : Value), i < 4 → (((Value.agg #[c0, c1, c2, c3]).cells.toList.drop (i * 1)).take 1) = [ci] → ∃ n : Int, ci = .int .u64 n ∧ 0 ≤ n ∧ n < 18446744073709551616 := by
    intro i ci hi hc
    have h1 := hg i hi
    rw [hc] at h1
    obtain ⟨x, hx⟩ : ∃ x, xs[i]? = some x := ⟨xs[i]'(by omega), List.getElem?_eq_getElem (by omega)⟩
    rw [hx] at h1
    obtain ⟨n, e1, _, hw⟩ := DataW.trod_int Tryz.underlying35 h1
    injection e1 with e1 _
    refine ⟨n, e1, ?_⟩
    have := bounds_u64 hw
    omega
  obtain ⟨n0, rfl, a0, b0⟩ := one 0 c0 (by decide) rfl
  obtain ⟨n1, rfl, a1, b1⟩ := one 1 c1 (by decide) rfl
  obtain ⟨n2, rfl, a2, b2⟩ := one 2 c2 (by decide) rfl
  obtain ⟨n3, rfl, a3, b3⟩ := one 3 c3 (by decide) rfl
  obtain ⟨x, e0, e1, e2, e3⟩ := cl_of ⟨a0, b0⟩ ⟨a1, b1⟩ ⟨a2, b2⟩ ⟨a3, b3⟩
  exact ⟨x, by rw [e0, e1, e2, e3]⟩
end Go.Proofs.YtjlcoldnhbkcgaaGreatDoor
namespace Go.Proofs.YtjlcoldnhbkcgaaGreatDoor
open Go.ChangeShapes Go.WideShapes Go.RowKit Go.Joins

theorem bulkAll_get {H : Type} {l : List (DataW H)} {i : Nat} {d : DataW H} (h : l[i]? = some d) : Rows.uptoBulkAll (l.take i) + Rows.uptoBulk d = Rows.uptoBulkAll (l.take (i + 1)) := by
  induction l generalizing i with
  | nil => simp at h
  | cons x l ih =>
    cases i with
    | zero => simp at h; subst h; simp [Rows.uptoBulkAll]
    | succ i =>
      have := ih (i := i) (by simpa using h)
      simp only [List.take_succ_cons, Rows.uptoBulkAll]
      omega
theorem cells_some {w : World} {a : Addr} {n : Nat} {cs : List Value} (h : w.cells? 0 a n = some cs) : cs.length = n ∧ ∀ j, j < n → w.cell? (a.add j) = cs[j]? := by
  unfold World.cells? at h
  rw [if_pos (Nat.zero_le _)] at h
  refine ⟨by simpa using mapM_some_length h, fun j hj => mapM_some_get h j j (by simp [hj])⟩
theorem spot_none {w : World} {a : Addr} {v : Value} (h : w.cell? a = some v) : a.spot = none ∧ a.block < w.heap.size := by
  refine ⟨?_, World.block_lt_of_cell? _ _ h⟩
  unfold World.cell? at h
  split at h
  · split at h
    · cases h
    · next h1 => simpa using h1
  · cases h
theorem add_at (g o k : Nat) : (⟨g, o, none⟩ : Addr).add k = ⟨g, o + k, none⟩ := by
  unfold Addr.add
  split
  · next h => rw [h]; rfl
  · rfl
theorem cls_cells {c0 c1 c2 c3 : Value} {H : Type} {enc : TypeId × Value → H} {w : World} {sp : Nat → Bool} {n : Nat} {x : DataW H × List MemPlace} (h : DataW.trod enc Tryz.prog w 0 sp true n 37 [c0, c1, c2, c3] = some x) :
    ∃ c : BitVec 256, c0 = .int .u64 (wd c 0) ∧ c1 = .int .u64 (wd c 1) ∧ c2 = .int .u64 (wd c 2) ∧ c3 = .int .u64 (wd c 3) := by
  obtain ⟨xs, m, _, _, _, hl, hg⟩ := DataW.trod_array Tryz.underlying37 h
  rw [cells_word] at hg
  have one : ∀ (i : Nat) (ci : Value), i < 4 → (([c0, c1, c2, c3].drop (i * 1)).take 1) = [ci] → ∃ n : Int, ci = .int .u64 n ∧ 0 ≤ n ∧ n < 18446744073709551616 := by
    intro i ci hi hc
    have h1 := hg i hi
    rw [hc] at h1
    obtain ⟨x, hx⟩ : ∃ x, xs[i]? = some x := ⟨xs[i]'(by omega), List.getElem?_eq_getElem (by omega)⟩
    rw [hx] at h1
    obtain ⟨n, e1, _, hw⟩ := DataW.trod_int Tryz.underlying35 h1
    injection e1 with e1 _
    refine ⟨n, e1, ?_⟩
    have := bounds_u64 hw
    omega
  obtain ⟨n0, rfl, a0, b0⟩ := one 0 c0 (by decide) rfl
  obtain ⟨n1, rfl, a1, b1⟩ := one 1 c1 (by decide) rfl
  obtain ⟨n2, rfl, a2, b2⟩ := one 2 c2 (by decide) rfl
  obtain ⟨n3, rfl, a3, b3⟩ := one 3 c3 (by decide) rfl
  obtain ⟨x, e0, e1, e2, e3⟩ := cl_of ⟨a0, b0⟩ ⟨a1, b1⟩ ⟨a2, b2⟩ ⟨a3, b3⟩
  exact ⟨x, by rw [e0], by rw [e1], by rw [e2], by rw [e3]⟩
theorem mkS_bytes (s : ByteArray) : mkS s.data.toList = s := by
  cases s
  simp [mkS]
theorem cells_node : Tryz.prog.cellsOf 40 = 8 := by kernel_rfl
theorem cells_class : Tryz.prog.cellsOf 37 = 4 := by kernel_rfl
theorem cells_int : Tryz.prog.cellsOf 3 = 1 := by kernel_rfl
theorem cells_str : Tryz.prog.cellsOf 9 = 1 := by kernel_rfl
theorem cells_subs : Tryz.prog.cellsOf 38 = 1 := by kernel_rfl
theorem array8 {cs : List Value} (h : cs.length = 8) : ∃ c0 c1 c2 c3 c4 c5 c6 c7, cs = [c0, c1, c2, c3, c4, c5, c6, c7] := by
  match cs, h with
  | [c0, c1, c2, c3, c4, c5, c6, c7], _ => exact ⟨_, _, _, _, _, _, _, _, rfl⟩
set_option maxRecDepth 100000 in
/-- A node's cells are some tree's. -/
theorem open_tree {H : Type} {enc : TypeId × Value → H} {w : World} {sp : Nat → Bool} : ∀ (fuel : Nat) (cs : List Value) (x : DataW H × List MemPlace), DataW.trod enc Tryz.prog w 0 sp true fuel 40 cs = some x → ∃ n : Tr, RepA w (fun b => b < w.heap.size) n cs ∧ n.bulk ≤ Rows.uptoBulk x.1 := by
  intro fuel
  induction fuel with
  | zero => intro cs x h; simp [DataW.trod] at h
  | succ m ih =>
    intro cs x h
    obtain ⟨xs, n, hn, rfl, hlen, hxs, hf⟩ := DataW.trod_struct Tryz.underlying40 h
    obtain rfl : n = m := by omega
    rw [cells_node] at hlen
    obtain ⟨c0, c1, c2, c3, c4, c5, c6, c7, rfl⟩ := array8 hlen
    match xs, hxs with
    | [x0, x1, x2, x3, x4], _ =>
    have f0 : DataW.trod enc Tryz.prog w 0 sp true n 3 (([c0, c1, c2, c3, c4, c5, c6, c7].drop 0).take (Tryz.prog.cellsOf 3)) = some x0 := hf 0 _ rfl
    rw [cells_int] at f0
    have f1 : DataW.trod enc Tryz.prog w 0 sp true n 9 (([c0, c1, c2, c3, c4, c5, c6, c7].drop 1).take (Tryz.prog.cellsOf 9)) = some x1 := hf 1 _ rfl
    rw [cells_str] at f1
    have f2 : DataW.trod enc Tryz.prog w 0 sp true n 37 (([c0, c1, c2, c3, c4, c5, c6, c7].drop 2).take (Tryz.prog.cellsOf 37)) = some x2 := hf 2 _ rfl
    rw [cells_class] at f2
    have f3 : DataW.trod enc Tryz.prog w 0 sp true n 38 (([c0, c1, c2, c3, c4, c5, c6, c7].drop 6).take (Tryz.prog.cellsOf 38)) = some x3 := hf 3 _ rfl
    rw [cells_subs] at f3
    have f4 : DataW.trod enc Tryz.prog w 0 sp true n 3 (([c0, c1, c2, c3, c4, c5, c6, c7].drop 7).take (Tryz.prog.cellsOf 3)) = some x4 := hf 4 _ rfl
    rw [cells_int] at f4
    dsimp only [List.drop, List.take] at f0 f1 f2 f3 f4
    obtain ⟨k, e0, _, _⟩ := DataW.trod_int Tryz.underlying3 f0
    obtain ⟨s, e1, e1', _⟩ := DataW.trod_string Tryz.underlying9 f1
    obtain ⟨c, rfl, rfl, rfl, rfl⟩ := cls_cells f2
    obtain ⟨p, e4, _, _⟩ := DataW.trod_int Tryz.underlying3 f4
    injection e0 with e0
    injection e1 with e1
    injection e4 with e4
    subst e0 e1 e4 e1'
    have hs : s.data.toList.length = s.data.size := Array.length_toList
    rcases DataW.trod_slice Tryz.underlying38 f3 with ⟨e3, rfl⟩ | ⟨a, len, cap, elems, rest, n', hn', e3, rfl, _, hlc, hcm, hel, hget, _, _⟩
    · injection e3 with e3
      subst e3
      refine ⟨.mk k s.data.toList c [] p, ?_, ?_⟩
      · have := RepA.mk (w := w) (P := fun b => b < w.heap.size) (k := k) (t := s.data.toList) (c := c) (p := p) (.null)
        rwa [trC, mkS_bytes] at this
      · simp only [Tr.bulk, Tr.bulks, Rows.uptoBulk, Rows.uptoBulkAll, List.map]
        omega
    · injection e3 with e3
      subst e3
      cases len with
      | zero =>
        refine ⟨.mk k s.data.toList c [] p, ?_, ?_⟩
        · have := RepA.mk (w := w) (P := fun b => b < w.heap.size) (k := k) (t := s.data.toList) (c := c) (p := p) (.zero (a := a) (cap := cap))
          rwa [trC, mkS_bytes] at this
        · simp only [Tr.bulk, Tr.bulks, Rows.uptoBulk, Rows.uptoBulkAll, List.map]
          omega
      | succ len =>
        rw [cells_node] at hget
        have one : ∀ i, i < len + 1 → ∃ cs y nd, w.cells? 0 (a.add (i * 8)) 8 = some cs ∧ elems[i]? = some y ∧ RepA w (fun b => b < w.heap.size) nd cs ∧ nd.bulk ≤ Rows.uptoBulk y.1 := by
          intro i hi
          have h1 := hget i hi
          obtain ⟨y, hy⟩ : ∃ y, elems[i]? = some y := ⟨elems[i]'(by omega), List.getElem?_eq_getElem (by omega)⟩
          rw [hy] at h1
          obtain ⟨cs, h2, h3⟩ := Option.bind_eq_some_iff.1 h1
          obtain rfl : n' + 1 = n := hn'.symm
          have h4 : DataW.trod enc Tryz.prog w 0 sp true (n' + 1) 40 cs = some y := DataW.trod_succ _ _ _ _ h3
          obtain ⟨nd, r1, r2⟩ := ih cs y h4
          exact ⟨cs, y, nd, h2, hy, r1, r2⟩
        obtain ⟨cs0, _, _, hc0, _, _, _⟩ := one 0 (by omega)
        obtain ⟨l0, g0⟩ := cells_some hc0
        have hsp : a.spot = none ∧ a.block < w.heap.size := by
          have h5 := g0 0 (by decide)
          rw [List.getElem?_eq_getElem (by omega)] at h5
          have h6 := spot_none h5
          simpa [Addr.add] using h6
        obtain ⟨g, o, spot⟩ := a
        obtain ⟨h7, h8⟩ := hsp
        dsimp only at h7 h8
        subst h7
        have row : ∀ k, k ≤ len + 1 → ∃ l : List Tr, l.length = k ∧ RepC w (fun b => b < w.heap.size) g o l ∧ Tr.bulks l ≤ Rows.uptoBulkAll ((elems.map (·.1)).take k) := by
          intro k
          induction k with
          | zero => intro _; exact ⟨[], rfl, .nil, by simp [Tr.bulks]⟩
          | succ k ihk =>
            intro hk
            obtain ⟨l, hl, hr, hb⟩ := ihk (by omega)
            obtain ⟨cs, y, nd, hc, hy, r1, r2⟩ := one k (by omega)
            obtain ⟨l8, g8⟩ := cells_some hc
            refine ⟨l ++ [nd], by simp [hl], hr.snoc (cs := cs) (fun j hj => ?_) r1, ?_⟩
            · rw [← g8 j hj, hl, add_at, add_at]
            · rw [Tr.bulks_snoc, ← bulkAll_get (i := k) (d := y.1) (by rw [List.getElem?_map, hy]; rfl)]
              omega
        obtain ⟨l, hl, hr, hb⟩ := row (len + 1) (Nat.le_refl _)
        rw [List.take_of_length_le (by simp; omega)] at hb
        refine ⟨.mk k s.data.toList c l p, ?_, ?_⟩
        · have h9 := RepL.row (w := w) (P := fun b => b < w.heap.size) (l := l) (g := g) (o := o) (cap := cap) h8 (by omega) (by omega) (by omega) hr
          rw [hl] at h9
          have := RepA.mk (w := w) (P := fun b => b < w.heap.size) (k := k) (t := s.data.toList) (c := c) (p := p) h9
          rwa [trC, mkS_bytes] at this
        · simp only [Tr.bulk, Rows.uptoBulk, Rows.uptoBulkAll, List.map]
          omega
def Rr.bulk (r : Rr) : Nat := r.name.length + r.body.bulk
def Rr.bulks : List Rr → Nat
  | [] => 0
  | r :: l => r.bulk + Rr.bulks l
theorem Rr.bulks_snoc (l : List Rr) (n : Rr) : Rr.bulks (l ++ [n]) = Rr.bulks l + n.bulk := by
  induction l with
  | nil => simp [Rr.bulks]
  | cons m l ih => simp only [List.cons_append, Rr.bulks, ih]; omega
theorem cells_rule : Tryz.prog.cellsOf 42 = 10 := by kernel_rfl
theorem cells_rules : Tryz.prog.cellsOf 22 = 1 := by kernel_rfl
theorem cells_gram : Tryz.prog.cellsOf 24 = 1 := by kernel_rfl
theorem array10 {cs : List Value} (h : cs.length = 10) : ∃ c0 c9 ds, ds.length = 8 ∧ cs = c0 :: (ds ++ [c9]) := by
  match cs, h with
  | [c0, c1, c2, c3, c4, c5, c6, c7, c8, c9], _ => exact ⟨c0, c9, [c1, c2, c3, c4, c5, c6, c7, c8], rfl, rfl⟩
set_option maxRecDepth 100000 in
/-- A rule's cells are some rule's. -/
theorem open_rule {H : Type} {enc : TypeId × Value → H} {w : World} {sp : Nat → Bool} {fuel : Nat} {cs : List Value} {x : DataW H × List MemPlace} (h : DataW.trod enc Tryz.prog w 0 sp true fuel 42 cs = some x) : ∃ (r : Rr) (ds : List Value), RepA w (fun b => b < w.heap.size) r.body ds ∧ cs = .string (mkS r.name) :: (ds ++ [.int .i64 r.pos]) ∧ r.bulk ≤ Rows.uptoBulk x.1 := by
  obtain ⟨xs, n, hn, rfl, hlen, hxs, hf⟩ := DataW.trod_struct Tryz.underlying42 h
  rw [cells_rule] at hlen
  obtain ⟨c0, c9, ds, hds, rfl⟩ := array10 hlen
  match xs, hxs with
  | [x0, x1, x2], _ =>
  have f0 : DataW.trod enc Tryz.prog w 0 sp true n 9 (((c0 :: (ds ++ [c9])).drop 0).take (Tryz.prog.cellsOf 9)) = some x0 := hf 0 _ rfl
  have f1 : DataW.trod enc Tryz.prog w 0 sp true n 40 (((c0 :: (ds ++ [c9])).drop 1).take (Tryz.prog.cellsOf 40)) = some x1 := hf 1 _ rfl
  have f2 : DataW.trod enc Tryz.prog w 0 sp true n 3 (((c0 :: (ds ++ [c9])).drop 9).take (Tryz.prog.cellsOf 3)) = some x2 := hf 2 _ rfl
  rw [cells_str] at f0
  rw [cells_node, List.drop_succ_cons, List.drop_zero, List.take_append_of_le_length (by omega), List.take_of_length_le (by omega)] at f1
  rw [cells_int, List.drop_succ_cons, List.drop_append_of_le_length (by omega), List.drop_of_length_le (by omega)] at f2
  dsimp only [List.drop, List.take, List.nil_append] at f0 f2
  obtain ⟨s, e0, e0', _⟩ := DataW.trod_string Tryz.underlying9 f0
  obtain ⟨b, hb, hbb⟩ := open_tree _ _ _ f1
  obtain ⟨p, e2, _, _⟩ := DataW.trod_int Tryz.underlying3 f2
  injection e0 with e0
  injection e2 with e2
  subst e0 e2 e0'
  have hs : s.data.toList.length = s.data.size := Array.length_toList
  refine ⟨⟨s.data.toList, b, p⟩, ds, hb, by rw [mkS_bytes], ?_⟩
  simp only [Rr.bulk, Rows.uptoBulk, Rows.uptoBulkAll, List.map]
  omega
set_option maxRecDepth 100000 in
/-- A slice of rules is some rules. -/
theorem open_rules {H : Type} {enc : TypeId × Value → H} {w : World} {sp : Nat → Bool} {fuel : Nat} {v : Value} {x : DataW H × List MemPlace} (h : DataW.trod enc Tryz.prog w 0 sp true fuel 22 [v] = some x) : ∃ l : List Rr, RepGr w (fun b => b < w.heap.size) l v ∧ Rr.bulks l ≤ Rows.uptoBulk x.1 := by
  rcases DataW.trod_slice Tryz.underlying22 h with ⟨e3, rfl⟩ | ⟨a, len, cap, elems, rest, n', hn', e3, rfl, _, hlc, hcm, hel, hget, _, _⟩
  · injection e3 with e3
    subst e3
    exact ⟨[], .null, by simp [Rr.bulks]⟩
  · injection e3 with e3
    subst e3
    cases len with
    | zero => exact ⟨[], .zero, by simp [Rr.bulks]⟩
    | succ len =>
      rw [cells_rule] at hget
      have one : ∀ i, i < len + 1 → ∃ cs y, w.cells? 0 (a.add (i * 10)) 10 = some cs ∧ elems[i]? = some y ∧ ∃ (r : Rr) (ds : List Value), RepA w (fun b => b < w.heap.size) r.body ds ∧ cs = .string (mkS r.name) :: (ds ++ [.int .i64 r.pos]) ∧ r.bulk ≤ Rows.uptoBulk y.1 := by
        intro i hi
        have h1 := hget i hi
        obtain ⟨y, hy⟩ : ∃ y, elems[i]? = some y := ⟨elems[i]'(by omega), List.getElem?_eq_getElem (by omega)⟩
        rw [hy] at h1
        obtain ⟨cs, h2, h3⟩ := Option.bind_eq_some_iff.1 h1
        exact ⟨cs, y, h2, hy, open_rule h3⟩
      obtain ⟨cs0, _, hc0, _, _⟩ := one 0 (by omega)
      obtain ⟨l0, g0⟩ := cells_some hc0
      have hsp : a.spot = none ∧ a.block < w.heap.size := by
        have h5 := g0 0 (by decide)
        rw [List.getElem?_eq_getElem (by omega)] at h5
        have h6 := spot_none h5
        simpa [Addr.add] using h6
      obtain ⟨g, o, spot⟩ := a
      obtain ⟨h7, h8⟩ := hsp
      dsimp only at h7 h8
      subst h7
      have row : ∀ k, k ≤ len + 1 → ∃ l : List Rr, l.length = k ∧ RepR w (fun b => b < w.heap.size) g o l ∧ Rr.bulks l ≤ Rows.uptoBulkAll ((elems.map (·.1)).take k) := by
        intro k
        induction k with
        | zero => intro _; exact ⟨[], rfl, .nil, by simp [Rr.bulks]⟩
        | succ k ihk =>
          intro hk
          obtain ⟨l, hl, hr, hb⟩ := ihk (by omega)
          obtain ⟨cs, y, hc, hy, r, ds, r1, rfl, r2⟩ := one k (by omega)
          obtain ⟨l8, g8⟩ := cells_some hc
          refine ⟨l ++ [r], by simp [hl], hr.snoc (cs := ds) (fun j hj => ?_) r1, ?_⟩
          · rw [← g8 j hj, hl, add_at, add_at]
          · rw [Rr.bulks_snoc, ← bulkAll_get (i := k) (d := y.1) (by rw [List.getElem?_map, hy]; rfl)]
            omega
      obtain ⟨l, hl, hr, hb⟩ := row (len + 1) (Nat.le_refl _)
      rw [List.take_of_length_le (by simp; omega)] at hb
      refine ⟨l, ?_, ?_⟩
      · have h9 := RepGr.row (w := w) (P := fun b => b < w.heap.size) (l := l) (g := g) (o := o) (cap := cap) h8 (by omega) (by omega) (by omega) hr
        rwa [hl] at h9
      · simp only [Rows.uptoBulk]
        omega
set_option maxRecDepth 100000 in
/-- A grammar among the arguments. -/
theorem open_gram {H : Type} {enc : TypeId × Value → H} {w : World} {r : Reach} {b0 : Nat} {sp : Nat → Bool} {v : Value} {d : DataW H} {p : List MemPlace} (hv : Value.okWide Tryz.prog w r b0 24 v) (h : DataW.Trod enc Tryz.prog w 0 sp true 24 v d p) :
    ∃ (l : List Rr) (s : Value), v = .agg #[s] ∧ RepGr w (fun b => b < w.heap.size) l s ∧ Rr.bulks l ≤ Rows.uptoBulk d := by
  obtain ⟨cs, rfl⟩ : ∃ cs, v = .agg cs := by
    simp only [Value.okWide, Tryz.underlying24] at hv
    obtain ⟨cs, h1, _⟩ := hv
    exact ⟨cs, h1⟩
  obtain ⟨fuel, hf⟩ := h
  obtain ⟨xs, n, hn, hx, hlen, hxs, hg⟩ := DataW.trod_struct Tryz.underlying24 hf
  rw [cells_gram] at hlen
  obtain ⟨c0, rfl⟩ : ∃ c0, cs = #[c0] := by
    have h1 : cs.toList.length = 1 := hlen
    match cs, h1 with
    | ⟨[c0]⟩, _ => exact ⟨c0, rfl⟩
  match xs, hxs with
  | [x0], _ =>
  have f0 : DataW.trod enc Tryz.prog w 0 sp true n 22 (((Value.agg #[c0]).cells.toList.drop 0).take (Tryz.prog.cellsOf 22)) = some x0 := hg 0 _ rfl
  rw [cells_rules] at f0
  obtain ⟨l, h1, h2⟩ := open_rules (v := c0) f0
  refine ⟨l, c0, rfl, h1, ?_⟩
  injection hx with hx1 hx2
  rw [hx1]
  simp only [Rows.uptoBulk, Rows.uptoBulkAll, List.map]
  omega
set_option maxRecDepth 100000 in
/-- A node among the arguments. -/
theorem open_node {H : Type} {enc : TypeId × Value → H} {w : World} {r : Reach} {b0 : Nat} {sp : Nat → Bool} {v : Value} {d : DataW H} {p : List MemPlace} (hv : Value.okWide Tryz.prog w r b0 40 v) (h : DataW.Trod enc Tryz.prog w 0 sp true 40 v d p) :
    ∃ (n : Tr) (cs : List Value), v = .agg cs.toArray ∧ RepA w (fun b => b < w.heap.size) n cs ∧ n.bulk ≤ Rows.uptoBulk d := by
  obtain ⟨cs, rfl⟩ : ∃ cs, v = .agg cs := by
    simp only [Value.okWide, Tryz.underlying40] at hv
    obtain ⟨cs, h1, _⟩ := hv
    exact ⟨cs, h1⟩
  obtain ⟨fuel, hf⟩ := h
  obtain ⟨n, h1, h2⟩ := open_tree _ _ _ hf
  exact ⟨n, cs.toList, by simp, h1, h2⟩
end Go.Proofs.YtjlcoldnhbkcgaaGreatDoor
namespace Go.Proofs.YtjlcoldnhbkcgaaGreatDoor
open Go.RowKit Go.Sort

/-- The cells of a rule. -/
def ruC (r : Rr) (cs : List Value) : List Value := .string (mkS r.name) :: (cs ++ [.int .i64 r.pos])
set_option maxRecDepth 100000 in
set_option maxHeartbeats 3200000 in
theorem rule_any {r : Rr} (q : Bool) (hq : okU r = q) (w : World) (P : Nat → Prop) (cs : List Value) (hr : RepA w P r.body cs) (hP : ∀ b, P b → b < w.heap.size) (hb : r.bulk ≤ 1000000000) : Calls Tryz.prog 67 #[.agg (ruC r cs).toArray] w (Ans (.bool q) w) := by
  obtain ⟨nm, bd, pp⟩ := r
  obtain ⟨k, t, x, v, l, p, hbd, rfl, hl⟩ := hr.form
  rw [Rr.bulk] at hb
  dsimp only at hr hb hbd
  have HC := Lib.hid (fun (w' : World) (h : Below w.heap.size w w') => node_any bd w' P _ (hr.mono (fun b hb => h.block b (hP b hb)) (fun _ h => h)) (fun b hb => Nat.lt_of_lt_of_le (hP b hb) h.size) (by omega))
  have HN := Lib.hid (fun w => lName_any (mkS nm) w (by rw [mkS_size]; omega))
  rw [mkS_bl] at HN
  have hm1 := cell_alloc_lt
  obtain ⟨sa, cap, rfl, _⟩ := hl.slice
  rw [okU] at hq
  dsimp only at hq
  clear hr hP hl hbd
  dsimp only [trC, ruC, List.cons_append, List.nil_append] at HC ⊢
  cases e1 : isName nm with
  | true =>
    rw [e1] at HN hq
    rw [Bool.true_and] at hq
    rw [hq] at HC
    clear e1 hq hb
    cases q with
    | true =>
      go_enter Tryz.func67, Tryz.ntmps67
      repeat (first | go_values | go_skip | go_guarded | go_step | go_upon)
      refine (HN.out _).mono ?_
      rintro e w1 ⟨rfl, hb1⟩
      obtain ⟨hc1, hf1⟩ := bcell hb1
      have hz1 := hb1.size
      try simp at hz1
      dsimp only
      repeat (first | go_values | go_skip | go_guarded | go_step | go_upon)
      refine (HC.out _ (by repeat (first | exact Below.refl _ _ | assumption | refine bal ?_ _ | refine bdr ?_ | refine bdrn ?_ _ | (refine bset ?_ (by first | exact Nat.le_refl _ | (simp; done) | (simp; omega) | omega) _) | refine bstep ?_ (by assumption)))).mono ?_
      rintro e w2 ⟨rfl, hb2⟩
      obtain ⟨hc2, hf2⟩ := bcell hb2
      have hz2 := hb2.size
      try simp at hz2
      dsimp only
      repeat (first | go_values | go_skip | go_guarded | go_step | go_upon)
      go_ret
      exact ⟨rfl, (by repeat (first | exact Below.refl _ _ | assumption | refine bal ?_ _ | refine bdr ?_ | refine bdrn ?_ _ | (refine bset ?_ (by first | exact Nat.le_refl _ | (simp; done) | (simp; omega) | omega) _) | refine bstep ?_ (by assumption)))⟩
    | false =>
      go_enter Tryz.func67, Tryz.ntmps67
      repeat (first | go_values | go_skip | go_guarded | go_step | go_upon)
      refine (HN.out _).mono ?_
      rintro e w1 ⟨rfl, hb1⟩
      obtain ⟨hc1, hf1⟩ := bcell hb1
      have hz1 := hb1.size
      try simp at hz1
      dsimp only
      repeat (first | go_values | go_skip | go_guarded | go_step | go_upon)
      refine (HC.out _ (by repeat (first | exact Below.refl _ _ | assumption | refine bal ?_ _ | refine bdr ?_ | refine bdrn ?_ _ | (refine bset ?_ (by first | exact Nat.le_refl _ | (simp; done) | (simp; omega) | omega) _) | refine bstep ?_ (by assumption)))).mono ?_
      rintro e w2 ⟨rfl, hb2⟩
      obtain ⟨hc2, hf2⟩ := bcell hb2
      have hz2 := hb2.size
      try simp at hz2
      dsimp only
      repeat (first | go_values | go_skip | go_guarded | go_step | go_upon)
      go_ret
      exact ⟨rfl, (by repeat (first | exact Below.refl _ _ | assumption | refine bal ?_ _ | refine bdr ?_ | refine bdrn ?_ _ | (refine bset ?_ (by first | exact Nat.le_refl _ | (simp; done) | (simp; omega) | omega) _) | refine bstep ?_ (by assumption)))⟩
  | false =>
    rw [e1] at HN hq
    rw [Bool.false_and] at hq
    subst hq
    clear e1 hb HC
    go_enter Tryz.func67, Tryz.ntmps67
    repeat (first | go_values | go_skip | go_guarded | go_step | go_upon)
    refine (HN.out _).mono ?_
    rintro e w1 ⟨rfl, hb1⟩
    obtain ⟨hc1, hf1⟩ := bcell hb1
    have hz1 := hb1.size
    try simp at hz1
    dsimp only
    repeat (first | go_values | go_skip | go_guarded | go_step | go_upon)
    go_ret
    exact ⟨rfl, (by repeat (first | exact Below.refl _ _ | assumption | refine bal ?_ _ | refine bdr ?_ | refine bdrn ?_ _ | (refine bset ?_ (by first | exact Nat.le_refl _ | (simp; done) | (simp; omega) | omega) _) | refine bstep ?_ (by assumption)))⟩
set_option maxRecDepth 100000 in
set_option maxHeartbeats 3200000 in
theorem rule1_any {r : Rr} (q : Bool) (hq : okU r = !q) (w : World) (P : Nat → Prop) (cs : List Value) (hr : RepA w P r.body cs) (hP : ∀ b, P b → b < w.heap.size) (hb : r.bulk ≤ 1000000000) : Calls Tryz.prog 66 #[.agg (ruC r cs).toArray] w (Ans (.bool q) w) := by
  have HC := Lib.hid (fun (w' : World) (h : Below w.heap.size w w') => rule_any (!q) hq w' P _ (hr.mono (fun b hb => h.block b (hP b hb)) (fun _ h => h)) (fun b hb => Nat.lt_of_lt_of_le (hP b hb) h.size) hb)
  obtain ⟨nm, bd, pp⟩ := r
  obtain ⟨k, t, x, v, l, p, hbd, rfl, hl⟩ := hr.form
  have hm1 := cell_alloc_lt
  obtain ⟨sa, cap, rfl, _⟩ := hl.slice
  clear hr hP hl hbd hq hb
  dsimp only [trC, ruC, List.cons_append, List.nil_append] at HC ⊢
  cases q with
  | true =>
    go_enter Tryz.func66, Tryz.ntmps66
    repeat (first | go_values | go_skip | go_guarded | go_step | go_upon)
    refine (HC.out _ (by repeat (first | exact Below.refl _ _ | assumption | refine bal ?_ _ | refine bdr ?_ | refine bdrn ?_ _ | (refine bset ?_ (by first | exact Nat.le_refl _ | (simp; done) | (simp; omega) | omega) _) | refine bstep ?_ (by assumption)))).mono ?_
    rintro e w1 ⟨rfl, hb1⟩
    obtain ⟨hc1, hf1⟩ := bcell hb1
    have hz1 := hb1.size
    try simp at hz1
    dsimp only
    repeat (first | go_values | go_skip | go_guarded | go_step | go_upon)
    go_ret
    exact ⟨rfl, (by repeat (first | exact Below.refl _ _ | assumption | refine bal ?_ _ | refine bdr ?_ | refine bdrn ?_ _ | (refine bset ?_ (by first | exact Nat.le_refl _ | (simp; done) | (simp; omega) | omega) _) | refine bstep ?_ (by assumption)))⟩
  | false =>
    go_enter Tryz.func66, Tryz.ntmps66
    repeat (first | go_values | go_skip | go_guarded | go_step | go_upon)
    refine (HC.out _ (by repeat (first | exact Below.refl _ _ | assumption | refine bal ?_ _ | refine bdr ?_ | refine bdrn ?_ _ | (refine bset ?_ (by first | exact Nat.le_refl _ | (simp; done) | (simp; omega) | omega) _) | refine bstep ?_ (by assumption)))).mono ?_
    rintro e w1 ⟨rfl, hb1⟩
    obtain ⟨hc1, hf1⟩ := bcell hb1
    have hz1 := hb1.size
    try simp at hz1
    dsimp only
    repeat (first | go_values | go_skip | go_guarded | go_step | go_upon)
    go_ret
    exact ⟨rfl, (by repeat (first | exact Below.refl _ _ | assumption | refine bal ?_ _ | refine bdr ?_ | refine bdrn ?_ _ | (refine bset ?_ (by first | exact Nat.le_refl _ | (simp; done) | (simp; omega) | omega) _) | refine bstep ?_ (by assumption)))⟩
/-- The first of some rules that may not be printed; -1: none. -/
def badU : Nat → List Rr → Int
  | _, [] => -1
  | i, n :: l => if okU n = true then badU (i + 1) l else (i : Int)
theorem badU_sign : ∀ (l : List Rr) (i : Nat), decide (0 ≤ badU i l) = !l.all okU := by
  intro l
  induction l with
  | nil => intro i; rfl
  | cons n l ih =>
    intro i
    rw [badU, List.all_cons]
    split
    · next h => rw [ih, h]; rfl
    · next h =>
      have : okU n = false := by simpa using h
      rw [this]
      simp
theorem bulk_rule {l : List Rr} {n : Rr} (h : n ∈ l) : n.bulk ≤ Rr.bulks l := by
  induction l with
  | nil => cases h
  | cons m l ih =>
    rw [Rr.bulks]
    rcases List.mem_cons.1 h with rfl | h
    · omega
    · have := ih h; omega
set_option maxRecDepth 100000 in
set_option maxHeartbeats 3200000 in
theorem index_rule {l : List Rr} {v : Value} {P : Nat → Prop} (w : World) (hl : RepGr w P l v) (hP : ∀ b, P b → b < w.heap.size) (hb : Rr.bulks l ≤ 1000000000) : Calls Tryz.prog 37 #[v, .func (.func 66) #[] #[]] w (Ans (.int .i64 (badU 0 l)) w) := by
  obtain ⟨n, hn⟩ : ∃ n, n = l.length := ⟨_, rfl⟩
  obtain ⟨a, cap, rfl, hcap, hmax⟩ := hl.slice
  have HL := Lib.hid hl
  have HP := Lib.hid hP
  have HB := Lib.hid hb
  have hm1 := cell_alloc_lt
  rw [← hn] at hcap hmax ⊢
  have HN := Lib.hid hn
  unfold maxLen at hmax
  clear hl hP hb hn
  go_enter Tryz.func37, Tryz.ntmps37
  repeat (first | go_values | go_skip | go_guarded | go_step | go_upon)
  go_loopw [8] (fun tt wr => ∃ j : Nat, tt = .int .i64 (j : Int) ∧ j ≤ n ∧ Hid (badU 0 l = badU j (l.drop j)) ∧ Below w.heap.size w wr) (fun tt _ => n - (intOf tt).toNat)
  case atStart => exact ⟨0, rfl, Nat.zero_le _, Lib.hid rfl, Below.refl _ _⟩
  case round =>
    obtain ⟨j, rfl, hj, hbad, hbr⟩ := hrel
    by_cases hlt : j < n
    · have hlt2 : j < l.length := by rw [← HN.out]; exact hlt
      obtain ⟨y, hy⟩ : ∃ y, l[j]? = some y := ⟨l[j], List.getElem?_eq_getElem hlt2⟩
      have hmem := List.mem_of_getElem? hy
      have hdrop : l.drop j = y :: l.drop (j + 1) := by
        rw [List.drop_eq_getElem_cons hlt2]
        congr 1
        exact (List.getElem?_eq_some_iff.1 hy).2
      have hbd := bulk_rule hmem
      have h1 := hbad.out
      rw [hdrop, badU] at h1
      rcases HL.out.parts with ⟨e, _⟩ | ⟨e, _⟩ | ⟨g, o, cap', e, hg, _, _, _, hr⟩
      · rw [e] at hlt2; simp at hlt2
      · rw [e] at hlt2; simp at hlt2
      · obtain rfl : a = some ⟨g, o, none⟩ := by injection e
        have HW := Lib.hid hbr
        obtain ⟨k1, t1, x1, sa, sn, sc, p1, l1, _, q0, _, a9, a0, a1, a2, a3, a4, a5, a6, a7, a8⟩ := (hr.mono (w' := wr) (P' := P) (fun b hb => HW.out.block b (HP.out b hb)) (fun _ h => h) hg).get hy
        have HC := Lib.hid (fun q hq => rule1_any (r := y) q hq wr P _ q0 (fun b hb => Nat.lt_of_lt_of_le (HP.out b hb) hbr.size) (by have := HB.out; omega))
        have d1 : decide ((j : Int) < n) = true := by simpa using hlt
        have k5 : IntKind.i64.wrap ((j : Int) + 1) = (j : Int) + 1 := by rw [IntKind.wrap_i64]; omega
        obtain ⟨r, hr2⟩ : ∃ r, okU y = r := ⟨_, rfl⟩
        rw [hr2] at h1
        have HR := Lib.hid hr2
        have H1 := Lib.hid h1
        clear h1 hdrop hy hmem q0 hr e hbad hr2
        dsimp only [trC, ruC, List.cons_append, List.nil_append] at HC
        cases r with
        | true =>
          have H2 := Lib.hid (show badU 0 l = badU (j + 1) (l.drop (j + 1)) from H1.out)
          clear H1
          repeat (first | go_values | go_skip | go_guarded | go_step | go_upon)
          refine (HC.out false HR.out).mono ?_
          rintro e w1 ⟨rfl, hb1⟩
          dsimp only
          repeat (first | go_values | go_skip | go_guarded | go_step | go_upon)
          exact ⟨⟨j + 1, by go_num, by omega, H2, hbr.trans (hb1.mono hbr.size)⟩, by simp [intOf]; omega⟩
        | false =>
          have H2 := Lib.hid (show badU 0 l = (j : Int) from H1.out)
          clear H1
          repeat (first | go_values | go_skip | go_guarded | go_step | go_upon)
          refine (HC.out true HR.out).mono ?_
          rintro e w1 ⟨rfl, hb1⟩
          dsimp only
          repeat (first | go_values | go_skip | go_guarded | go_step | go_upon)
          go_ret
          exact ⟨by rw [H2.out]; rfl, hbr.trans (hb1.mono hbr.size)⟩
    · have d1 : decide (j < n) = false := by simpa using hlt
      have hjn : j = l.length := by rw [← HN.out]; omega
      have H2 := Lib.hid (show badU 0 l = -1 by rw [hbad.out, hjn, List.drop_length]; rfl)
      clear hlt hjn hbad
      repeat (first | go_values | go_skip | go_guarded | go_step | go_upon)
      go_ret
      exact ⟨by rw [H2.out]; rfl, hbr⟩
theorem contains_rule {l : List Rr} {v : Value} {P : Nat → Prop} (q : Bool) (hq : l.all okU = !q) (w : World) (hl : RepGr w P l v) (hP : ∀ b, P b → b < w.heap.size) (hb : Rr.bulks l ≤ 1000000000) : Calls Tryz.prog 65 #[v, .func (.func 66) #[] #[]] w (Ans (.bool q) w) := by
  have HC := Lib.hid (fun (w' : World) (h : Below w.heap.size w w') => index_rule w' (hl.mono (fun b hb => h.block b (hP b hb)) (fun _ h => h)) (fun b hb => Nat.lt_of_lt_of_le (hP b hb) h.size) hb)
  have hs := badU_sign l 0
  obtain ⟨i, hi⟩ : ∃ i, badU 0 l = i := ⟨_, rfl⟩
  rw [hi] at HC hs
  rw [hq, Bool.not_not] at hs
  rw [← hs]
  obtain ⟨a, cap, rfl, hcap, hmax⟩ := hl.slice
  generalize l.length = n at *
  clear hl hP hb hi hs hq
  go_enter Tryz.func65, Tryz.ntmps65
  repeat (first | go_values | go_skip | go_guarded | go_step | go_upon)
  refine (HC.out _ (by repeat (first | exact Below.refl _ _ | assumption | refine bal ?_ _ | refine bdr ?_ | refine bdrn ?_ _ | (refine bset ?_ (by first | exact Nat.le_refl _ | (simp; done) | (simp; omega) | omega) _) | refine bstep ?_ (by assumption)))).mono ?_
  rintro e w1 ⟨rfl, hb1⟩
  obtain ⟨hc1, hf1⟩ := bcell hb1
  have hz1 := hb1.size
  try simp at hz1
  dsimp only
  repeat (first | go_values | go_skip | go_guarded | go_step | go_upon)
  go_ret
  exact ⟨rfl, (by repeat (first | exact Below.refl _ _ | assumption | refine bal ?_ _ | refine bdr ?_ | refine bdrn ?_ _ | (refine bset ?_ (by first | exact Nat.le_refl _ | (simp; done) | (simp; omega) | omega) _) | refine bstep ?_ (by assumption)))⟩
end Go.Proofs.YtjlcoldnhbkcgaaGreatDoor
