/- A tree, and a grammar, among the arguments of a row: it is some tree, and no larger than what the reading holds. | Whether a tree may be printed, told by its nodes; how long its text is: plain. | A page that is written, and left alone once it is too long: plain. | The walk of lex.Quote. | What the door's rows have in common: the variable's cell out of 'laid', a world that meets it (after the guide's worked text ToyasProofs). -/
import Derived.Test.YteohgaheockepaaDoorG1
import Derived.Test.YteohgaheockepaaDoorG32
import Derived.Test.YteohgaheockepaaDoorG30
import Derived.Test.YteohgaheockepaaDoorRows
import Derived.ChangeArms
import Derived.Test.YteohgaheockepaaDoorG28
import Derived.Test.YteohgaheockepaaDoorG9
import Derived.Test.YteohgaheockepaaDoorG3
import Derived.StillTailTactics
import Derived.Laws.DeepStrings4
import Derived.Test.YteohgaheockepaaDoorG13
import Derived.ChangeSame
import Derived.ChangeVars
import Derived.JoinedOf
import Derived.RowKit
import Derived.RowKitTokens
import Derived.LaidLaws
import Derived.LaidHandle
import Derived.Stop.Joined
namespace Go.Proofs.YteohgaheockepaaDoor
open Go.ChangeShapes Go.WideShapes Go.RowKit Go.Joins

theorem bulkAll_get {H : Type} {l : List (DataW H)} {i : Nat} {d : DataW H} (h : l[i]? = some d) : Rows.uptoBulkAll (l.take i) + Rows.uptoBulk d = Rows.uptoBulkAll (l.take (i + 1)) := by
  induction l generalizing i with
  | nil => simp at h
  | cons x l ih =>
    cases i with
    | zero => simp at h; subst h; simp [Rows.uptoBulkAll]
    | succ i =>
      have := ih (i := i) (by simpa using h)
      simp only [List.take_succ_cons, Rows.uptoBulkAll]
      omega
theorem cells_some {w : World} {a : Addr} {n : Nat} {cs : List Value} (h : w.cells? 0 a n = some cs) : cs.length = n ∧ ∀ j, j < n → w.cell? (a.add j) = cs[j]? := by
  unfold World.cells? at h
  rw [if_pos (Nat.zero_le _)] at h
  refine ⟨by simpa using mapM_some_length h, fun j hj => mapM_some_get h j j (by simp [hj])⟩
theorem spot_none {w : World} {a : Addr} {v : Value} (h : w.cell? a = some v) : a.spot = none ∧ a.block < w.heap.size := by
  refine ⟨?_, World.block_lt_of_cell? _ _ h⟩
  unfold World.cell? at h
  split at h
  · split at h
    · cases h
    · next h1 => simpa using h1
  · cases h
theorem add_at (g o k : Nat) : (⟨g, o, none⟩ : Addr).add k = ⟨g, o + k, none⟩ := by
  unfold Addr.add
  split
  · next h => rw [h]; rfl
  · rfl
theorem cls_cells {c0 c1 c2 c3 : Value} {H : Type} {enc : TypeId × Value → H} {w : World} {sp : Nat → Bool} {n : Nat} {x : DataW H × List MemPlace} (h : DataW.trod enc Tryd.prog w 0 sp true n 36 [c0, c1, c2, c3] = some x) :
    ∃ c : BitVec 256, c0 = .int .u64 (wd c 0) ∧ c1 = .int .u64 (wd c 1) ∧ c2 = .int .u64 (wd c 2) ∧ c3 = .int .u64 (wd c 3) := by
  obtain ⟨xs, m, _, _, _, hl, hg⟩ := DataW.trod_array Tryd.underlying36 h
  rw [cells_word] at hg
  have one : ∀ (i : Nat) (ci : Value), i < 4 → (([c0, c1, c2, c3].drop (i * 1)).take 1) = [ci] → ∃ n : Int, ci = .int .u64 n ∧ 0 ≤ n ∧ n < 18446744073709551616 := by
    intro i ci hi hc
    have h1 := hg i hi
    rw [hc] at h1
    obtain ⟨x, hx⟩ : ∃ x, xs[i]? = some x := ⟨xs[i]'(by omega), List.getElem?_eq_getElem (by omega)⟩
    rw [hx] at h1
    obtain ⟨n, e1, _, hw⟩ := DataW.trod_int Tryd.underlying34 h1
    injection e1 with e1 _
    refine ⟨n, e1, ?_⟩
    have := bounds_u64 hw
    omega
  obtain ⟨n0, rfl, a0, b0⟩ := one 0 c0 (by decide) rfl
  obtain ⟨n1, rfl, a1, b1⟩ := one 1 c1 (by decide) rfl
  obtain ⟨n2, rfl, a2, b2⟩ := one 2 c2 (by decide) rfl
  obtain ⟨n3, rfl, a3, b3⟩ := one 3 c3 (by decide) rfl
  obtain ⟨x, e0, e1, e2, e3⟩ := cl_of ⟨a0, b0⟩ ⟨a1, b1⟩ ⟨a2, b2⟩ ⟨a3, b3⟩
  exact ⟨x, by rw [e0], by rw [e1], by rw [e2], by rw [e3]⟩
theorem mkS_bytes (s : ByteArray) : mkS s.data.toList = s := by
  cases s
  simp [mkS]
theorem cells_node : Tryd.prog.cellsOf 39 = 8 := by kernel_rfl
theorem cells_class : Tryd.prog.cellsOf 36 = 4 := by kernel_rfl
theorem cells_int : Tryd.prog.cellsOf 3 = 1 := by kernel_rfl
theorem cells_str : Tryd.prog.cellsOf 9 = 1 := by kernel_rfl
theorem cells_subs : Tryd.prog.cellsOf 37 = 1 := by kernel_rfl
theorem array8 {cs : List Value} (h : cs.length = 8) : ∃ c0 c1 c2 c3 c4 c5 c6 c7, cs = [c0, c1, c2, c3, c4, c5, c6, c7] := by
  match cs, h with
  | [c0, c1, c2, c3, c4, c5, c6, c7], _ => exact ⟨_, _, _, _, _, _, _, _, rfl⟩
set_option maxRecDepth 100000 in
/-- A node's cells are some tree's. -/
theorem open_tree {H : Type} {enc : TypeId × Value → H} {w : World} {sp : Nat → Bool} : ∀ (fuel : Nat) (cs : List Value) (x : DataW H × List MemPlace), DataW.trod enc Tryd.prog w 0 sp true fuel 39 cs = some x → ∃ n : Tr, RepA w (fun b => b < w.heap.size) n cs ∧ n.bulk ≤ Rows.uptoBulk x.1 := by
  intro fuel
  induction fuel with
  | zero => intro cs x h; simp [DataW.trod] at h
  | succ m ih =>
    intro cs x h
    obtain ⟨xs, n, hn, rfl, hlen, hxs, hf⟩ := DataW.trod_struct Tryd.underlying39 h
    obtain rfl : n = m := by omega
    rw [cells_node] at hlen
    obtain ⟨c0, c1, c2, c3, c4, c5, c6, c7, rfl⟩ := array8 hlen
    match xs, hxs with
    | [x0, x1, x2, x3, x4], _ =>
    have f0 : DataW.trod enc Tryd.prog w 0 sp true n 3 (([c0, c1, c2, c3, c4, c5, c6, c7].drop 0).take (Tryd.prog.cellsOf 3)) = some x0 := hf 0 _ rfl
    rw [cells_int] at f0
    have f1 : DataW.trod enc Tryd.prog w 0 sp true n 9 (([c0, c1, c2, c3, c4, c5, c6, c7].drop 1).take (Tryd.prog.cellsOf 9)) = some x1 := hf 1 _ rfl
    rw [cells_str] at f1
    have f2 : DataW.trod enc Tryd.prog w 0 sp true n 36 (([c0, c1, c2, c3, c4, c5, c6, c7].drop 2).take (Tryd.prog.cellsOf 36)) = some x2 := hf 2 _ rfl
    rw [cells_class] at f2
    have f3 : DataW.trod enc Tryd.prog w 0 sp true n 37 (([c0, c1, c2, c3, c4, c5, c6, c7].drop 6).take (Tryd.prog.cellsOf 37)) = some x3 := hf 3 _ rfl
    rw [cells_subs] at f3
    have f4 : DataW.trod enc Tryd.prog w 0 sp true n 3 (([c0, c1, c2, c3, c4, c5, c6, c7].drop 7).take (Tryd.prog.cellsOf 3)) = some x4 := hf 4 _ rfl
    rw [cells_int] at f4
    dsimp only [List.drop, List.take] at f0 f1 f2 f3 f4
    obtain ⟨k, e0, _, _⟩ := DataW.trod_int Tryd.underlying3 f0
    obtain ⟨s, e1, e1', _⟩ := DataW.trod_string Tryd.underlying9 f1
    obtain ⟨c, rfl, rfl, rfl, rfl⟩ := cls_cells f2
    obtain ⟨p, e4, _, _⟩ := DataW.trod_int Tryd.underlying3 f4
    injection e0 with e0
    injection e1 with e1
    injection e4 with e4
    subst e0 e1 e4 e1'
    have hs : s.data.toList.length = s.data.size := Array.length_toList
    rcases DataW.trod_slice Tryd.underlying37 f3 with ⟨e3, rfl⟩ | ⟨a, len, cap, elems, rest, n', hn', e3, rfl, _, hlc, hcm, hel, hget, _, _⟩
    · injection e3 with e3
      subst e3
      refine ⟨.mk k s.data.toList c [] p, ?_, ?_⟩
      · have := RepA.mk (w := w) (P := fun b => b < w.heap.size) (k := k) (t := s.data.toList) (c := c) (p := p) (.null)
        rwa [trC, mkS_bytes] at this
      · simp only [Tr.bulk, Tr.bulks, Rows.uptoBulk, Rows.uptoBulkAll, List.map]
        omega
    · injection e3 with e3
      subst e3
      cases len with
      | zero =>
        refine ⟨.mk k s.data.toList c [] p, ?_, ?_⟩
        · have := RepA.mk (w := w) (P := fun b => b < w.heap.size) (k := k) (t := s.data.toList) (c := c) (p := p) (.zero (a := a) (cap := cap))
          rwa [trC, mkS_bytes] at this
        · simp only [Tr.bulk, Tr.bulks, Rows.uptoBulk, Rows.uptoBulkAll, List.map]
          omega
      | succ len =>
        rw [cells_node] at hget
        have one : ∀ i, i < len + 1 → ∃ cs y nd, w.cells? 0 (a.add (i * 8)) 8 = some cs ∧ elems[i]? = some y ∧ RepA w (fun b => b < w.heap.size) nd cs ∧ nd.bulk ≤ Rows.uptoBulk y.1 := by
          intro i hi
          have h1 := hget i hi
          obtain ⟨y, hy⟩ : ∃ y, elems[i]? = some y := ⟨elems[i]'(by omega), List.getElem?_eq_getElem (by omega)⟩
          rw [hy] at h1
          obtain ⟨cs, h2, h3⟩ := Option.bind_eq_some_iff.1 h1
          obtain rfl : n' + 1 = n := hn'.symm
          have h4 : DataW.trod enc Tryd.prog w 0 sp true (n' + 1) 39 cs = some y := DataW.trod_succ _ _ _ _ h3
          obtain ⟨nd, r1, r2⟩ := ih cs y h4
          exact ⟨cs, y, nd, h2, hy, r1, r2⟩
        obtain ⟨cs0, _, _, hc0, _, _, _⟩ := one 0 (by omega)
        obtain ⟨l0, g0⟩ := cells_some hc0
        have hsp : a.spot = none ∧ a.block < w.heap.size := by
          have h5 := g0 0 (by decide)
          rw [List.getElem?_eq_getElem (by omega)] at h5
          have h6 := spot_none h5
          simpa [Addr.add] using h6
        obtain ⟨g, o, spot⟩ := a
        obtain ⟨h7, h8⟩ := hsp
        dsimp only at h7 h8
        subst h7
        have row : ∀ k, k ≤ len + 1 → ∃ l : List Tr, l.length = k ∧ RepC w (fun b => b < w.heap.size) g o l ∧ Tr.bulks l ≤ Rows.uptoBulkAll ((elems.map (·.1)).take k) := by
          intro k
          induction k with
          | zero => intro _; exact ⟨[], rfl, .nil, by simp [Tr.bulks]⟩
          | succ k ihk =>
            intro hk
            obtain ⟨l, hl, hr, hb⟩ := ihk (by omega)
            obtain ⟨cs, y, nd, hc, hy, r1, r2⟩ := one k (by omega)
            obtain ⟨l8, g8⟩ := cells_some hc
            refine ⟨l ++ [nd], by simp [hl], hr.snoc (cs := cs) (fun j hj => ?_) r1, ?_⟩
            · rw [← g8 j hj, hl, add_at, add_at]
            · rw [Tr.bulks_snoc, ← bulkAll_get (i := k) (d := y.1) (by rw [List.getElem?_map, hy]; rfl)]
              omega
        obtain ⟨l, hl, hr, hb⟩ := row (len + 1) (Nat.le_refl _)
        rw [List.take_of_length_le (by simp; omega)] at hb
        refine ⟨.mk k s.data.toList c l p, ?_, ?_⟩
        · have h9 := RepL.row (w := w) (P := fun b => b < w.heap.size) (l := l) (g := g) (o := o) (cap := cap) h8 (by omega) (by omega) (by omega) hr
          rw [hl] at h9
          have := RepA.mk (w := w) (P := fun b => b < w.heap.size) (k := k) (t := s.data.toList) (c := c) (p := p) h9
          rwa [trC, mkS_bytes] at this
        · simp only [Tr.bulk, Rows.uptoBulk, Rows.uptoBulkAll, List.map]
          omega
def Rr.bulk (r : Rr) : Nat := r.name.length + r.body.bulk
def Rr.bulks : List Rr → Nat
  | [] => 0
  | r :: l => r.bulk + Rr.bulks l
theorem Rr.bulks_snoc (l : List Rr) (n : Rr) : Rr.bulks (l ++ [n]) = Rr.bulks l + n.bulk := by
  induction l with
  | nil => simp [Rr.bulks]
  | cons m l ih => simp only [List.cons_append, Rr.bulks, ih]; omega
theorem cells_rule : Tryd.prog.cellsOf 41 = 10 := by kernel_rfl
theorem cells_rules : Tryd.prog.cellsOf 22 = 1 := by kernel_rfl
theorem cells_gram : Tryd.prog.cellsOf 24 = 1 := by kernel_rfl
theorem array10 {cs : List Value} (h : cs.length = 10) : ∃ c0 c9 ds, ds.length = 8 ∧ cs = c0 :: (ds ++ [c9]) := by
  match cs, h with
  | [c0, c1, c2, c3, c4, c5, c6, c7, c8, c9], _ => exact ⟨c0, c9, [c1, c2, c3, c4, c5, c6, c7, c8], rfl, rfl⟩
set_option maxRecDepth 100000 in
/-- A rule's cells are some rule's. -/
theorem open_rule {H : Type} {enc : TypeId × Value → H} {w : World} {sp : Nat → Bool} {fuel : Nat} {cs : List Value} {x : DataW H × List MemPlace} (h : DataW.trod enc Tryd.prog w 0 sp true fuel 41 cs = some x) : ∃ (r : Rr) (ds : List Value), RepA w (fun b => b < w.heap.size) r.body ds ∧ cs = .string (mkS r.name) :: (ds ++ [.int .i64 r.pos]) ∧ r.bulk ≤ Rows.uptoBulk x.1 := by
  obtain ⟨xs, n, hn, rfl, hlen, hxs, hf⟩ := DataW.trod_struct Tryd.underlying41 h
  rw [cells_rule] at hlen
  obtain ⟨c0, c9, ds, hds, rfl⟩ := array10 hlen
  match xs, hxs with
  | [x0, x1, x2], _ =>
  have f0 : DataW.trod enc Tryd.prog w 0 sp true n 9 (((c0 :: (ds ++ [c9])).drop 0).take (Tryd.prog.cellsOf 9)) = some x0 := hf 0 _ rfl
  have f1 : DataW.trod enc Tryd.prog w 0 sp true n 39 (((c0 :: (ds ++ [c9])).drop 1).take (Tryd.prog.cellsOf 39)) = some x1 := hf 1 _ rfl
  have f2 : DataW.trod enc Tryd.prog w 0 sp true n 3 (((c0 :: (ds ++ [c9])).drop 9).take (Tryd.prog.cellsOf 3)) = some x2 := hf 2 _ rfl
  rw [cells_str] at f0
  rw [cells_node, List.drop_succ_cons, List.drop_zero, List.take_append_of_le_length (by omega), List.take_of_length_le (by omega)] at f1
  rw [cells_int, List.drop_succ_cons, List.drop_append_of_le_length (by omega), List.drop_of_length_le (by omega)] at f2
  dsimp only [List.drop, List.take, List.nil_append] at f0 f2
  obtain ⟨s, e0, e0', _⟩ := DataW.trod_string Tryd.underlying9 f0
  obtain ⟨b, hb, hbb⟩ := open_tree _ _ _ f1
  obtain ⟨p, e2, _, _⟩ := DataW.trod_int Tryd.underlying3 f2
  injection e0 with e0
  injection e2 with e2
  subst e0 e2 e0'
  have hs : s.data.toList.length = s.data.size := Array.length_toList
  refine ⟨⟨s.data.toList, b, p⟩, ds, hb, by rw [mkS_bytes], ?_⟩
  simp only [Rr.bulk, Rows.uptoBulk, Rows.uptoBulkAll, List.map]
  omega
set_option maxRecDepth 100000 in
/-- A slice of rules is some rules. -/
theorem open_rules {H : Type} {enc : TypeId × Value → H} {w : World} {sp : Nat → Bool} {fuel : Nat} {v : Value} {x : DataW H × List MemPlace} (h : DataW.trod enc Tryd.prog w 0 sp true fuel 22 [v] = some x) : ∃ l : List Rr, RepGr w (fun b => b < w.heap.size) l v ∧ Rr.bulks l ≤ Rows.uptoBulk x.1 := by
  rcases DataW.trod_slice Tryd.underlying22 h with ⟨e3, rfl⟩ | ⟨a, len, cap, elems, rest, n', hn', e3, rfl, _, hlc, hcm, hel, hget, _, _⟩
  · injection e3 with e3
    subst e3
    exact ⟨[], .null, by simp [Rr.bulks]⟩
  · injection e3 with e3
    subst e3
    cases len with
    | zero => exact ⟨[], .zero, by simp [Rr.bulks]⟩
    | succ len =>
      rw [cells_rule] at hget
      have one : ∀ i, i < len + 1 → ∃ cs y, w.cells? 0 (a.add (i * 10)) 10 = some cs ∧ elems[i]? = some y ∧ ∃ (r : Rr) (ds : List Value), RepA w (fun b => b < w.heap.size) r.body ds ∧ cs = .string (mkS r.name) :: (ds ++ [.int .i64 r.pos]) ∧ r.bulk ≤ Rows.uptoBulk y.1 := by
        intro i hi
        have h1 := hget i hi
        obtain ⟨y, hy⟩ : ∃ y, elems[i]? = some y := ⟨elems[i]'(by omega), List.getElem?_eq_getElem (by omega)⟩
        rw [hy] at h1
        obtain ⟨cs, h2, h3⟩ := Option.bind_eq_some_iff.1 h1
        exact ⟨cs, y, h2, hy, open_rule h3⟩
      obtain ⟨cs0, _, hc0, _, _⟩ := one 0 (by omega)
      obtain ⟨l0, g0⟩ := cells_some hc0
      have hsp : a.spot = none ∧ a.block < w.heap.size := by
        have h5 := g0 0 (by decide)
        rw [List.getElem?_eq_getElem (by omega)] at h5
        have h6 := spot_none h5
        simpa [Addr.add] using h6
      obtain ⟨g, o, spot⟩ := a
      obtain ⟨h7, h8⟩ := hsp
      dsimp only at h7 h8
      subst h7
      have row : ∀ k, k ≤ len + 1 → ∃ l : List Rr, l.length = k ∧ RepR w (fun b => b < w.heap.size) g o l ∧ Rr.bulks l ≤ Rows.uptoBulkAll ((elems.map (·.1)).take k) := by
        intro k
        induction k with
        | zero => intro _; exact ⟨[], rfl, .nil, by simp [Rr.bulks]⟩
        | succ k ihk =>
          intro hk
          obtain ⟨l, hl, hr, hb⟩ := ihk (by omega)
          obtain ⟨cs, y, hc, hy, r, ds, r1, rfl, r2⟩ := one k (by omega)
          obtain ⟨l8, g8⟩ := cells_some hc
          refine ⟨l ++ [r], by simp [hl], hr.snoc (cs := ds) (fun j hj => ?_) r1, ?_⟩
          · rw [← g8 j hj, hl, add_at, add_at]
          · rw [Rr.bulks_snoc, ← bulkAll_get (i := k) (d := y.1) (by rw [List.getElem?_map, hy]; rfl)]
            omega
      obtain ⟨l, hl, hr, hb⟩ := row (len + 1) (Nat.le_refl _)
      rw [List.take_of_length_le (by simp; omega)] at hb
      refine ⟨l, ?_, ?_⟩
      · have h9 := RepGr.row (w := w) (P := fun b => b < w.heap.size) (l := l) (g := g) (o := o) (cap := cap) h8 (by omega) (by omega) (by omega) hr
        rwa [hl] at h9
      · simp only [Rows.uptoBulk]
        omega
set_option maxRecDepth 100000 in
/-- A grammar among the arguments. -/
theorem open_gram {H : Type} {enc : TypeId × Value → H} {w : World} {r : Reach} {b0 : Nat} {sp : Nat → Bool} {v : Value} {d : DataW H} {p : List MemPlace} (hv : Value.okWide Tryd.prog w r b0 24 v) (h : DataW.Trod enc Tryd.prog w 0 sp true 24 v d p) :
    ∃ (l : List Rr) (s : Value), v = .agg #[s] ∧ RepGr w (fun b => b < w.heap.size) l s ∧ Rr.bulks l ≤ Rows.uptoBulk d := by
  obtain ⟨cs, rfl⟩ : ∃ cs, v = .agg cs := by
    simp only [Value.okWide, Tryd.underlying24] at hv
    obtain ⟨cs, h1, _⟩ := hv
    exact ⟨cs, h1⟩
  obtain ⟨fuel, hf⟩ := h
  obtain ⟨xs, n, hn, hx, hlen, hxs, hg⟩ := DataW.trod_struct Tryd.underlying24 hf
  rw [cells_gram] at hlen
  obtain ⟨c0, rfl⟩ : ∃ c0, cs = #[c0] := by
    have h1 : cs.toList.length = 1 := hlen
    match cs, h1 with
    | ⟨[c0]⟩, _ => exact ⟨c0, rfl⟩
  match xs, hxs with
  | [x0], _ =>
  have f0 : DataW.trod enc Tryd.prog w 0 sp true n 22 (((Value.agg #[c0]).cells.toList.drop 0).take (Tryd.prog.cellsOf 22)) = some x0 := hg 0 _ rfl
  rw [cells_rules] at f0
  obtain ⟨l, h1, h2⟩ := open_rules (v := c0) f0
  refine ⟨l, c0, rfl, h1, ?_⟩
  injection hx with hx1 hx2
  rw [hx1]
  simp only [Rows.uptoBulk, Rows.uptoBulkAll, List.map]
  omega
set_option maxRecDepth 100000 in
/-- A node among the arguments. -/
theorem open_node {H : Type} {enc : TypeId × Value → H} {w : World} {r : Reach} {b0 : Nat} {sp : Nat → Bool} {v : Value} {d : DataW H} {p : List MemPlace} (hv : Value.okWide Tryd.prog w r b0 39 v) (h : DataW.Trod enc Tryd.prog w 0 sp true 39 v d p) :
    ∃ (n : Tr) (cs : List Value), v = .agg cs.toArray ∧ RepA w (fun b => b < w.heap.size) n cs ∧ n.bulk ≤ Rows.uptoBulk d := by
  obtain ⟨cs, rfl⟩ : ∃ cs, v = .agg cs := by
    simp only [Value.okWide, Tryd.underlying39] at hv
    obtain ⟨cs, h1, _⟩ := hv
    exact ⟨cs, h1⟩
  obtain ⟨fuel, hf⟩ := h
  obtain ⟨n, h1, h2⟩ := open_tree _ _ _ hf
  exact ⟨n, cs.toList, by simp, h1, h2⟩
end Go.Proofs.YteohgaheockepaaDoor
namespace Go.Proofs.YteohgaheockepaaDoor
open Go.RowKit

theorem len_one {l : List Tr} (h : l.length = 1) : ∃ x, l = [x] := by
  match l, h with
  | [x], _ => exact ⟨x, rfl⟩
theorem okT_ok : ∀ (n : Tr), okT n = true → OkT n
  | .mk k t c l p, h => by
    rw [okT, Bool.and_eq_true] at h
    obtain ⟨h1, h2⟩ := h
    have ih : ∀ m ∈ l, OkT m := fun m hm => okT_ok m (okL_all.1 h2 m hm)
    rw [okH, Bool.and_eq_true] at h1
    obtain ⟨hc, h1⟩ := h1
    have hc0 : k ≠ 3 → c = 0 := fun hk => by
      rw [Bool.or_eq_true] at hc
      rcases hc with e | e
      · exact absurd (eq_of_beq e) hk
      · exact eq_of_beq e
    split at h1
    · next hk =>
      subst hk
      rw [Bool.and_eq_true] at h1
      obtain rfl : l = [] := List.eq_nil_of_length_eq_zero (eq_of_beq h1.2)
      obtain rfl := hc0 (by decide)
      exact .ref h1.1
    split at h1
    · next hk =>
      subst hk
      rw [Bool.and_eq_true] at h1
      obtain rfl : l = [] := List.eq_nil_of_length_eq_zero (eq_of_beq h1.2)
      obtain rfl := hc0 (by decide)
      exact .lit (of_decide_eq_true h1.1)
    split at h1
    · next hk =>
      rw [Bool.and_eq_true] at h1
      obtain rfl : l = [] := List.eq_nil_of_length_eq_zero (eq_of_beq h1.2)
      obtain rfl : t = [] := List.isEmpty_iff.1 h1.1
      rcases hk with rfl | rfl | rfl
      · obtain rfl := hc0 (by decide); exact .empty
      · obtain rfl := hc0 (by decide); exact .any
      · exact .set
    split at h1
    · next hk =>
      rw [Bool.and_eq_true] at h1
      obtain rfl : t = [] := List.isEmpty_iff.1 h1.1
      rcases hk with rfl | rfl
      · obtain rfl := hc0 (by decide); exact .seq (of_decide_eq_true h1.2) ih
      · obtain rfl := hc0 (by decide); exact .alt (of_decide_eq_true h1.2) ih
    split at h1
    · next hk =>
      rw [Bool.and_eq_true] at h1
      obtain rfl : t = [] := List.isEmpty_iff.1 h1.1
      obtain ⟨x, rfl⟩ := len_one (eq_of_beq h1.2)
      have hx := ih x List.mem_cons_self
      rcases hk with rfl | rfl | rfl | rfl | rfl
      · obtain rfl := hc0 (by decide); exact .post (.inl rfl) hx
      · obtain rfl := hc0 (by decide); exact .post (.inr (.inl rfl)) hx
      · obtain rfl := hc0 (by decide); exact .post (.inr (.inr rfl)) hx
      · obtain rfl := hc0 (by decide); exact .pre (.inl rfl) hx
      · obtain rfl := hc0 (by decide); exact .pre (.inr rfl) hx
    · cases h1
theorem ok_okT {n : Tr} (h : OkT n) : okT n = true := by
  induction h with
  | empty => rfl
  | lit h => simp [okT, okH, okL, h]
  | set => simp [okT, okH, okL]
  | any => rfl
  | ref h => simp [okT, okH, okL, h]
  | seq h _ ih => simp [okT, okH, h, okL_all.2 ih]
  | alt h _ ih => simp [okT, okH, h, okL_all.2 ih]
  | post hk _ ih => rcases hk with rfl | rfl | rfl <;> simp [okT, okH, okL, ih]
  | pre hk _ ih => rcases hk with rfl | rfl <;> simp [okT, okH, okL, ih]
/-- A rule, a grammar. -/
def okU (r : Rr) : Bool := isName r.name && okT r.body
def okG (g : List Rr) : Bool := decide (1 ≤ g.length) && decide (g.length ≤ 64) && g.all okU
theorem okU_ok {r : Rr} (h : okU r = true) : OkR r := by
  rw [okU, Bool.and_eq_true] at h
  exact ⟨h.1, okT_ok _ h.2⟩
theorem ok_okU {r : Rr} (h : OkR r) : okU r = true := by rw [okU, h.1, ok_okT h.2]; rfl
/-- The text of a tree, of a grammar. -/
def txT (n : Tr) : List UInt8 := txs (pcT n)
def txQ (r : Nat) (n : Tr) : List UInt8 := txs (pcQ r n)
def txR (sep : List UInt8) (r : Nat) : List Tr → List UInt8
  | [] => []
  | n :: l => sep ++ (txQ r n ++ txR sep r l)
theorem txs_row (sep : List Pc) (r : Nat) (l : List Tr) : txs (pcR sep r false l) = txR (txs sep) r l := by
  induction l with
  | nil => rw [pcR_nil]; rfl
  | cons n l ih => rw [pcR_cons, txs_app, txs_app, ih]; rfl
theorem txs_first (sep : List Pc) (r : Nat) (n : Tr) (l : List Tr) : txs (pcR sep r true (n :: l)) = txQ r n ++ txR (txs sep) r l := by
  rw [pcR_cons, txs_app, txs_app, txs_row]; rfl
theorem txR_snoc (sep : List UInt8) (r : Nat) (l : List Tr) (n : Tr) : txR sep r (l ++ [n]) = txR sep r l ++ (sep ++ txQ r n) := by
  induction l with
  | nil => simp [txR]
  | cons m l ih => simp [txR, ih]
theorem txQ_in {r : Nat} {n : Tr} (h : r ≤ rankT n.kind) : txQ r n = txT n := by rw [txQ, pcQ, paren, if_pos h]; rfl
theorem txQ_out {r : Nat} {n : Tr} (h : ¬ r ≤ rankT n.kind) : txQ r n = 40 :: (txT n ++ [41]) := by
  rw [txQ, pcQ, paren, if_neg h]
  show 40 :: txs (pcT n ++ [.sg 41]) = _
  rw [txs_app]
  rfl
def txU (r : Rr) : List UInt8 := r.name ++ ([32, 60, 45, 32] ++ (txT r.body ++ [10]))
def txG : List Rr → List UInt8
  | [] => []
  | r :: l => txU r ++ txG l
theorem txs_gram (g : List Rr) : txs (pcG g) = txG g := by
  induction g with
  | nil => rfl
  | cons r g ih =>
    rw [pcG, txs_app, ih, txG]
    show (r.name ++ (32 :: 60 :: 45 :: 32 :: txs (pcT r.body ++ [.nl]))) ++ txG g = _
    rw [txs_app]
    rfl
end Go.Proofs.YteohgaheockepaaDoor
namespace Go.Proofs.YteohgaheockepaaDoor
open Go.RowKit

/-- A page that held c holds c' behind the writing of t: the text is there, or both are too long. -/
def Wr (c t c' : List UInt8) : Prop := c.length ≤ c'.length ∧ (c' = c ++ t ∨ (8192 < c'.length ∧ 8192 < c.length + t.length))
theorem Wr.refl (c : List UInt8) : Wr c [] c := ⟨Nat.le_refl _, .inl (by simp)⟩
theorem Wr.put (c t : List UInt8) : Wr c t (c ++ t) := ⟨by simp, .inl rfl⟩
theorem Wr.wide {c t : List UInt8} (h : 8192 < c.length) : Wr c t c := ⟨Nat.le_refl _, .inr ⟨h, by omega⟩⟩
theorem Wr.trans {c t u c1 c2 : List UInt8} (h : Wr c t c1) (h2 : Wr c1 u c2) : Wr c (t ++ u) c2 := by
  obtain ⟨l1, h1⟩ := h
  obtain ⟨l2, h2⟩ := h2
  refine ⟨by omega, ?_⟩
  rcases h1 with rfl | ⟨a, b⟩
  · rcases h2 with rfl | ⟨a, b⟩
    · exact .inl (by simp)
    · exact .inr ⟨a, by rw [List.length_append] at b ⊢; omega⟩
  · exact .inr ⟨by omega, by rw [List.length_append]; omega⟩
theorem Wr.done {t c : List UInt8} (h : Wr [] t c) : (c.length ≤ 8192 → c = t) ∧ (8192 < c.length ↔ 8192 < t.length) := by
  obtain ⟨l1, h1⟩ := h
  rcases h1 with rfl | ⟨a, b⟩
  · simp
  · simp only [List.length_nil, Nat.zero_add] at b
    exact ⟨fun h => by omega, by omega⟩
/-- What the document's page does. -/
def putS (c s : List UInt8) : List UInt8 := if c.length ≤ 8192 then c ++ s else c
theorem putS_wr (c s : List UInt8) : Wr c s (putS c s) := by
  unfold putS
  split
  · exact Wr.put c s
  · exact Wr.wide (by omega)
end Go.Proofs.YteohgaheockepaaDoor
namespace Go.Proofs.YteohgaheockepaaDoor
open Go.RowKit Go.Sort

theorem wbq (b : Nat) (A : List UInt8) (c : Nat) (w : World) (hc : c < 256) (h : Bld b b (Lib.byteCells A) w) (hl : A.length ≤ 100000000) :
    Calls Tryd.prog 17 #[.pointer (some ⟨b, 0, none⟩), .int .u8 (c : Int)] w fun e w' => e = .returned .nilIface ∧ Bld b b (Lib.byteCells (A ++ [c.toUInt8])) w' ∧ Below b w w' := by
  refine (writeByte_any b b _ _ w h (by rw [Lib.byteCells_length]; omega) (Nat.le_of_lt (bld_lt h))).mono ?_
  rintro e w' ⟨h1, h2, h3, h4⟩
  refine ⟨h1, ?_, h3⟩
  rw [Lib.byteCells_append]
  have e : Lib.byteCells [c.toUInt8] = [.int .u8 (c : Int)] := by
    have : c.toUInt8.toNat = c := by simp; omega
    show [Value.int .u8 ((c.toUInt8.toNat : Nat) : Int)] = _
    rw [this]
  rw [e]
  exact h2
theorem wsq (b : Nat) (A S : List UInt8) (U : ByteArray) (w : World) (hU : U = ⟨S.toArray⟩) (h : Bld b b (Lib.byteCells A) w) (hl : A.length + S.length ≤ 100000000) :
    Calls Tryd.prog 15 #[.pointer (some ⟨b, 0, none⟩), .string U] w fun e w' => e = .returned (.tuple #[.int .i64 (S.length : Nat), .nilIface]) ∧ Bld b b (Lib.byteCells (A ++ S)) w' ∧ Below b w w' := by
  subst hU
  have hs : (⟨S.toArray⟩ : ByteArray).size = S.length := by simp [ByteArray.size]
  refine (writeString_any b b _ _ w h (by rw [Lib.byteCells_length, hs]; omega) (Nat.le_of_lt (bld_lt h))).mono ?_
  rintro e w' ⟨h1, h2, h3, h4⟩
  exact ⟨by rw [h1, hs], by rw [Lib.byteCells_append, ← strCells_txt S]; exact h2, h3⟩
set_option maxRecDepth 100000 in
set_option maxHeartbeats 6400000 in
theorem quote_any (P : ByteArray) (w : World) (hs : P.size ≤ 1048576) : Calls Tryd.prog 31 #[.string P] w (Ans (.string ⟨(quoted (bl P)).toArray⟩) w) := by
  have hlen := bl_length P
  have HB := Lib.hid (bld_new w)
  have HQ := Lib.hid (show quoted (bl P) = quoTo (bl P) P.size ++ [39] by rw [quoted, hlen])
  go_enter Tryd.func31, Tryd.ntmps31
  repeat (first | go_values | go_skip | go_guarded | go_step | go_upon)
  refine (wbq w.heap.size [] 39 _ (by decide) (by simpa [Lib.byteCells] using HB.out) (by simp)).mono ?_
  rintro e w1 ⟨rfl, hB1, hb1⟩
  have hW1 : Below w.heap.size w w1 := ((Below.refl _ _).alloc (Nat.le_refl _) _).trans hb1
  dsimp only
  repeat (first | go_values | go_skip | go_guarded | go_step | go_upon)
  go_loopw [10] (fun t wr => ∃ k : Nat, t = .int .i64 (k : Int) ∧ k ≤ P.size ∧ Bld w.heap.size w.heap.size (Lib.byteCells (quoTo (bl P) k)) wr ∧ Below w.heap.size w wr) (fun t _ => P.size - (intOf t).toNat)
  case atStart => exact ⟨0, rfl, Nat.zero_le _, hB1, hW1⟩
  case round =>
    obtain ⟨k, rfl, hk, hB, hb⟩ := hrel
    have hq4 := quoTo_len (bl P) k
    have qB := bld_lt hB
    rcases Nat.lt_or_ge k P.size with hlt | hge
    · have hv := byteAt_ba hlt
      have h256 := UInt8.toNat_lt P[k]
      have k1 : decide (k < P.size) = true := by simpa using hlt
      have hst : quoTo (bl P) (k + 1) = quoTo (bl P) k ++ qch P[k].toNat := by rw [quoTo, hv]
      rcases qch_kinds P[k].toNat h256 with h | h | h
      · have hj : ∃ (j : Nat) (x : UInt8), j < 5 ∧ Lib.indexByte [10, 13, 9, 39, 92] P[k].toNat.toUInt8 = j ∧ (⟨#[92]⟩ ++ (⟨#[110, 114, 116, 39, 92]⟩ : ByteArray).extract j (j + 1) : ByteArray) = ⟨[92, x].toArray⟩ ∧ qch P[k].toNat = [92, x] := by
          rcases h with h | h | h | h | h <;> rw [h]
          · exact ⟨0, 110, by decide, by decide, by decide, by decide⟩
          · exact ⟨1, 114, by decide, by decide, by decide, by decide⟩
          · exact ⟨2, 116, by decide, by decide, by decide, by decide⟩
          · exact ⟨3, 39, by decide, by decide, by decide, by decide⟩
          · exact ⟨4, 92, by decide, by decide, by decide, by decide⟩
        obtain ⟨j, x, hj5, hj1, hj2, hj3⟩ := hj
        have HI := Lib.hid (fun w' => idx_any ⟨#[10, 13, 9, 39, 92]⟩ (P[k].toNat : Int) (j : Int) w' (by simpa using hj1))
        have H2 := Lib.hid hj2
        have HS := Lib.hid (hst.trans (by rw [hj3]))
        clear hv h hst hj1 hj2 hj3
        repeat (first | go_values | go_skip | go_guarded | go_step | go_upon)
        refine (HI.out _).mono ?_
        rintro e w2 ⟨rfl, hb2⟩
        have hB2 := bld_below hB hb2
        dsimp only
        repeat (first | go_values | go_skip | go_guarded | go_step | go_upon)
        refine (wsq w.heap.size (quoTo (bl P) k) [92, x] _ _ H2.out hB2 (by simp; omega)).mono ?_
        rintro e w3 ⟨rfl, hB3, hb3⟩
        dsimp only
        repeat (first | go_values | go_skip | go_guarded | go_step | go_upon)
        refine ⟨⟨k + 1, by go_num, by omega, by rw [HS.out]; exact hB3, (bstep hb hb2).trans hb3⟩, by simp [intOf]; omega⟩
      · have HI := Lib.hid (fun w' => idx_any ⟨#[10, 13, 9, 39, 92]⟩ (P[k].toNat : Int) (-1) w' (by simpa using qmark_no h256 h.1 h.2.1 h.2.2.1 h.2.2.2.1 h.2.2.2.2.1))
        have HS := Lib.hid (hst.trans (by rw [qch_plain h]))
        have d1 : decide ((P[k].toNat : Int) < 32) = false := by simp; omega
        have d2 : decide ((126 : Int) < P[k].toNat) = false := by simp; omega
        clear hv h hst
        repeat (first | go_values | go_skip | go_guarded | go_step | go_upon)
        refine (HI.out _).mono ?_
        rintro e w2 ⟨rfl, hb2⟩
        have hB2 := bld_below hB hb2
        dsimp only
        repeat (first | go_values | go_skip | go_guarded | go_step | go_upon)
        refine (wbq w.heap.size (quoTo (bl P) k) P[k].toNat _ h256 hB2 (by omega)).mono ?_
        rintro e w3 ⟨rfl, hB3, hb3⟩
        dsimp only
        repeat (first | go_values | go_skip | go_guarded | go_step | go_upon)
        refine ⟨⟨k + 1, by go_num, by omega, by rw [HS.out]; exact hB3, (bstep hb hb2).trans hb3⟩, by simp [intOf]; omega⟩
      · have HI := Lib.hid (fun w' => idx_any ⟨#[10, 13, 9, 39, 92]⟩ (P[k].toNat : Int) (-1) w' (by simpa using qmark_no h256 h.1 h.2.1 h.2.2.1 h.2.2.2.1 h.2.2.2.2.1))
        have HS := Lib.hid (hst.trans (by rw [qch_hex h]))
        have hdd : (decide ((P[k].toNat : Int) < 32) = true) ∨ (decide ((P[k].toNat : Int) < 32) = false ∧ decide ((126 : Int) < P[k].toNat) = true) := by
          simp only [decide_eq_true_eq, decide_eq_false_iff_not]; omega
        have e1 : (P[k].toNat : Int) / 16 = ((P[k].toNat / 16 : Nat) : Int) := by omega
        have e2 : bits .and .u8 (P[k].toNat : Int) 15 = ((P[k].toNat % 16 : Nat) : Int) := and15 _ h256
        have x1 := Lib.hid (hexd_at (P[k].toNat / 16) (by omega))
        have x2 := Lib.hid (hexd_at (P[k].toNat % 16) (by omega))
        have b1 : P[k].toNat / 16 < 16 := by omega
        have b2 : P[k].toNat % 16 < 16 := by omega
        clear hv h hst
        generalize P[k].toNat / 16 = p at *
        generalize P[k].toNat % 16 = q at *
        have w1 : IntKind.u8.wrap ((p : Int) + 1) = (p : Int) + 1 := by rw [IntKind.wrap_u8]; omega
        have w2' : IntKind.u8.wrap ((q : Int) + 1) = (q : Int) + 1 := by rw [IntKind.wrap_u8]; omega
        have c1 : (p : Int) + 1 ≤ 16 := by omega
        have c2 : (q : Int) + 1 ≤ 16 := by omega
        have c3 : (0 : Int) ≤ (p : Int) ∧ (p : Int) ≤ (p : Int) + 1 := by omega
        have c4 : (0 : Int) ≤ (q : Int) ∧ (q : Int) ≤ (q : Int) + 1 := by omega
        have m1 : min (p + 1) 16 - p = 1 := by omega
        have m2 : min (q + 1) 16 - q = 1 := by omega
        have t1 : ((p : Int) + 1).toNat = p + 1 := by omega
        have t2 : ((q : Int) + 1).toNat = q + 1 := by omega
        rcases hdd with d1 | ⟨d1, d2⟩
        all_goals
          repeat (first | go_values | go_skip | go_guarded | go_step | go_upon)
          refine (HI.out _).mono ?_
          rintro e w2 ⟨rfl, hb2⟩
          have hB2 := bld_below hB hb2
          dsimp only
          repeat (first | go_values | go_skip | go_guarded | go_step | go_upon)
          go_still_tail 14, (by kernel_rfl)
          repeat (first | go_values | go_skip | go_guarded | go_step | go_upon)
          refine (wsq w.heap.size (quoTo (bl P) k) [92, 120, hexd p, hexd q] _ _ ?_ (bld_below hB2 (drew_below _)) (by simp; omega)).mono ?_
          · rw [x1.out, x2.out]; rfl
          rintro e w3 ⟨rfl, hB3, hb3⟩
          dsimp only
          repeat (first | go_values | go_skip | go_guarded | go_step | go_upon)
          refine ⟨⟨k + 1, by go_num, by omega, by rw [HS.out]; exact hB3, (bstep (bstep hb hb2) (drew_below _)).trans hb3⟩, by simp [intOf]; omega⟩
    · obtain rfl : k = P.size := by omega
      repeat (first | go_values | go_skip | go_guarded | go_step | go_upon)
      refine (wbq w.heap.size (quoTo (bl P) P.size) 39 _ (by decide) hB (by omega)).mono ?_
      rintro e w3 ⟨rfl, hB3, hb3⟩
      dsimp only
      repeat (first | go_values | go_skip | go_guarded | go_step | go_upon)
      refine (Tryd.Builder_String_any_k w.heap.size w.heap.size _ _ hB3 (Nat.le_of_lt (bld_lt hB3))).mono ?_
      rintro e w4 ⟨rfl, hB4, hb4, ho4⟩
      dsimp only
      repeat (first | go_values | go_skip | go_guarded | go_step | go_upon)
      go_ret
      refine ⟨?_, (hb.trans hb3).trans hb4⟩
      rw [HQ.out]
      rfl
end Go.Proofs.YteohgaheockepaaDoor
namespace Go.Proofs.YteohgaheockepaaDoor
open Go.ChangeShapes Go.WideShapes Go.RowKit
def laidL : List (String × DataW Unit) := [("errors.errorType", Rows.laid_errors_errorType)]
theorem door_et : Tryd.prog.globalNamed "errors.errorType" = some 1 := by kernel_rfl
theorem door_rt : (Tryd.prog.cutTypes.find? (·.1 == "internal/reflectlite.rtype")).map (·.2) = some 138 := by kernel_rfl
theorem door_row : ((List.range 177).filter fun t => Tryd.prog.rowNamed t [101, 114, 114, 111, 114]) = [27] := by kernel_rfl
theorem door_size : Tryd.prog.types.size = 177 := by kernel_rfl
theorem handle_of_laid {W : World} (h : laidMetH Tryd.prog laidL W) : Laid W := by
  have h' : laidMet Tryd.prog [] W ∧ handlesMet Tryd.prog laidL W := h
  obtain ⟨name, u, ty, e1, e2, e3, e4, e5⟩ := h'.2 _ (List.mem_singleton.2 rfl)
  have en : name = [101, 114, 114, 111, 114] := (Option.some.inj e1).symm
  subst en
  obtain rfl := Option.some.inj (door_rt.symm.trans e2)
  have hm : ty ∈ (List.range 177).filter fun t => Tryd.prog.rowNamed t [101, 114, 114, 111, 114] := List.mem_filter.2 ⟨List.mem_range.2 (by rw [← door_size]; exact e3), e4⟩
  rw [door_row] at hm
  obtain rfl := List.mem_singleton.1 hm
  have hh : typeHandle Tryd.prog 27 = .pointer (some ⟨2, 27, none⟩) := by kernel_rfl
  rw [hh] at e5
  unfold Laid
  simpa using World.var?_cell door_et e5 0
noncomputable def laidWorld (os : Os) : World :=
  let w0 := World.holding Tryd.prog os ⟨#[], #[], []⟩
  { w0 with heap := w0.heap.modify 1 fun
      | .cells _ t frozen => .cells #[.iface 138 (.agg #[.pointer (some ⟨2, 27, none⟩)])] t frozen
      | o => o }
theorem laidWorld_met (os : Os) (args : Array Value) : laidMetH Tryd.prog laidL ((laidWorld os).forCall (fun _ _ => 0) ⟨#[], args, []⟩).memory :=
  laidMetH_of_parts (laidMet_nil _ _) (by kernel_rfl)
end Go.Proofs.YteohgaheockepaaDoor
