/- scope.Uses. | Reach's closure: a visit. | scope.Reach. | The scope laws' small case: the walk. | One more rule that nothing uses; the place of a name so far: plain. -/
import Derived.Test.YtjlcoldnhbkcgaaGreatDoorG45
import Derived.Test.YtjlcoldnhbkcgaaGreatDoorG41
import Derived.Test.YtjlcoldnhbkcgaaGreatDoorG40
import Derived.Test.YtjlcoldnhbkcgaaGreatDoorG4
import Derived.Laws.EntriesVeiled
import Derived.Test.YtjlcoldnhbkcgaaGreatDoorG14
namespace Go.Proofs.YtjlcoldnhbkcgaaGreatDoor
open Go.RowKit Go.Sort Go.Maps

theorem info_sl : (Tryz.prog.info? 49).map (fun i => (i.zero, i.size, i.bytes)) = some (some (.slice none 0 0), 1, 24) := by kernel_rfl
theorem cell_s_new (w : World) (a : Value) (t : TypeId) : ∀ j u, [a][j]? = some u → (w.alloc (.cells #[a] t)).cell? (Addr.add ⟨w.heap.size, 0, none⟩ j) = some u := by
  intro j u hj
  match j, hj with
  | 0, hj => simp at hj; subst hj; simp [Addr.add]
set_option maxRecDepth 100000 in
set_option maxHeartbeats 6400000 in
theorem sUses_no {g : List Rr} {v : Value} {P : Nat → Prop} (w : World) (hg : Laid w) (hr : RepGr w P g v) (hP : ∀ b, P b → b < w.heap.size) (hb : Rr.bulks g ≤ 1000000000) (hc : ¬ CkOk g) : Calls Tryz.prog 15 #[.agg #[v]] w (fun e w' => (∃ v, e = .returned (.tuple #[.slice none 0 0, v]) ∧ ErrV v) ∧ Below w.heap.size w w') := by
  obtain ⟨a, cap, rfl, _⟩ := hr.slice
  have HX := Lib.hid (fun (w' : World) (h : Below w.heap.size w w') => check_no w' (hg.below h hg.pos) (hr.on hP h) (fun b hb => Nat.lt_of_lt_of_le (hP b hb) h.size) hb hc)
  have hm1 := cell_alloc_lt
  clear hg hr hP hb hc
  go_enter Tryz.func15, Tryz.ntmps15
  repeat (first | go_values | go_skip | go_guarded | go_step | go_upon)
  refine (HX.out _ (by repeat (first | exact Below.refl _ _ | assumption | refine bal ?_ _ | refine bdr ?_ | refine bdrn ?_ _ | (refine bset ?_ (by first | exact Nat.le_refl _ | (simp; done) | (simp; omega) | omega) _) | refine bstep ?_ (by assumption)))).mono ?_
  rintro e w2 ⟨⟨v, rfl, hv⟩, hb2⟩
  rcases hv with ⟨c, rfl⟩ | ⟨p, rfl⟩
  · dsimp only
    repeat (first | go_values | go_skip | go_guarded | go_step | go_upon)
    go_ret2
    exact ⟨⟨_, rfl, .inl ⟨_, rfl⟩⟩, (by repeat (first | exact Below.refl _ _ | assumption | refine bal ?_ _ | refine bdr ?_ | refine bdrn ?_ _ | (refine bset ?_ (by first | exact Nat.le_refl _ | (simp; done) | (simp; omega) | omega) _) | refine bstep ?_ (by assumption)))⟩
  · dsimp only
    repeat (first | go_values | go_skip | go_guarded | go_step | go_upon)
    go_ret2
    exact ⟨⟨_, rfl, .inr ⟨_, rfl⟩⟩, (by repeat (first | exact Below.refl _ _ | assumption | refine bal ?_ _ | refine bdr ?_ | refine bdrn ?_ _ | (refine bset ?_ (by first | exact Nat.le_refl _ | (simp; done) | (simp; omega) | omega) _) | refine bstep ?_ (by assumption)))⟩
/-- What Uses hands out. -/
def UsP (g : List Rr) (w : World) (u : Value) (w' : World) : Prop := ∃ cells, w'.ownsRow w.heap.size 49 1 u g.length cells ∧ InR w' w.heap.size cells (rowsG g)
set_option maxRecDepth 100000 in
set_option maxHeartbeats 6400000 in
theorem sUses_ok {g : List Rr} {v : Value} {P : Nat → Prop} (w : World) (hg : Laid w) (hr : RepGr w P g v) (hP : ∀ b, P b → b < w.heap.size) (hb : Rr.bulks g ≤ 1000000000) (hc : CkOk g) : Calls Tryz.prog 15 #[.agg #[v]] w (fun e w' => ∃ u : Value, e = .returned (.tuple #[u, .nilIface]) ∧ UsP g w u w' ∧ Below w.heap.size w w') := by
  obtain ⟨n, hn⟩ : ∃ n, n = g.length := ⟨_, rfl⟩
  obtain ⟨a, cap, rfl, hcap, hmax⟩ := hr.slice
  obtain ⟨hall, hn0, hn64⟩ := okG_all hc.okg
  have HX := Lib.hid (fun (w' : World) (h : Below w.heap.size w w') => check_ok w' (hg.below h hg.pos) (hr.on hP h) (fun b hb => Nat.lt_of_lt_of_le (hP b hb) h.size) hb hc)
  have HY := Lib.hid (fun (w' : World) (h : Below w.heap.size w w') => places_any w' (hr.on hP h) (fun b hb => Nat.lt_of_lt_of_le (hP b hb) h.size) (fun y hy => Nat.le_trans (isName_len (hall y hy).1) (by decide)) (by omega))
  have HR := Lib.hid hr
  have HP := Lib.hid hP
  have HA := Lib.hid hall
  have HK := Lib.hid hc.2.2
  have HBF := Lib.hid (fun (y : Rr) (hy : y ∈ g) => rf_few hb hy)
  rw [← hn] at HR hcap hn64 HX HY
  have HN := Lib.hid hn
  have hm1 := cell_alloc_lt
  obtain ⟨i0, iH, iz, is, ib⟩ := info_parts info_sl
  clear hg hr hP hb hc hmax hall hn0
  have hgn : g.length = n := hn.symm
  rw [hgn]
  clear hn hgn
  go_enter Tryz.func15, Tryz.ntmps15
  repeat (first | go_values | go_skip | go_guarded | go_step | go_upon)
  refine (HX.out _ (by repeat (first | exact Below.refl _ _ | assumption | refine bal ?_ _ | refine bdr ?_ | refine bdrn ?_ _ | (refine bset ?_ (by first | exact Nat.le_refl _ | (simp; done) | (simp; omega) | omega) _) | refine bstep ?_ (by assumption)))).mono ?_
  rintro e w1 ⟨rfl, hb1⟩
  have hw1 : Below w.heap.size w w1 := (bal (Below.refl _ w) _).trans (hb1.mono (by simp))
  have h1x := (hb1.block w.heap.size (by simp)).trans (heap_alloc_new w _)
  have c1 := (cells_at h1x).1 0
  have q1 := (cells_at h1x).2.2
  dsimp only
  repeat (first | go_values | go_skip | go_guarded | go_step | go_upon)
  refine (HY.out _ hw1).mono ?_
  rintro e w2 ⟨m, D, rfl, hmm, hown, hD, hb2⟩
  have hw2 : Below w.heap.size w w2 := hw1.trans (hb2.mono hw1.size)
  have h2x := (hb2.block w.heap.size q1).trans h1x
  have c2 := (cells_at h2x).1 0
  have q2 := (cells_at h2x).2.2
  have HO := Lib.hid hown
  have HD := Lib.hid hD
  have qb := hown.lt
  clear hown hD
  dsimp only
  repeat (first | go_values | go_skip | go_guarded | go_step | go_upon)
  go_loopw [6, 19] (fun v t wr => ∃ (j : Nat) (cells : List Value), t = .int .i64 (j : Int) ∧ j ≤ n ∧ Hid (wr.ownsRow w2.heap.size 49 1 v j cells) ∧ Hid (InR wr w2.heap.size cells ((rowsG g).take j)) ∧ Below w2.heap.size w2 wr) (fun _ t _ => n - (intOf t).toNat)
  case atStart => exact ⟨0, [], rfl, Nat.zero_le _, Lib.hid (World.ownsRow_nil _ _ _ _), Lib.hid (inR_nil _ _), Below.refl _ _⟩
  case round =>
    obtain ⟨j, cells, rfl, hj, HC, HI, hb⟩ := hrel
    have HB := Lib.hid hb
    have hz := hb.size
    have HW := Lib.hid (hw2.trans (hb.mono hw2.size))
    have hwz := HW.out.size
    have cr := (hb.cell (p := ⟨w.heap.size, 0, none⟩) q2).trans c2
    clear hb
    by_cases hlt : j < n
    · have hlt2 : j < g.length := by rw [← HN.out]; exact hlt
      obtain ⟨y, hy⟩ : ∃ y, g[j]? = some y := ⟨g[j], List.getElem?_eq_getElem hlt2⟩
      have hmem := List.mem_of_getElem? hy
      rcases HR.out.parts with ⟨e, _⟩ | ⟨e, _⟩ | ⟨gg, o, cap', e, hgg, _, hcp, hmx, hr⟩
      · rw [e] at hlt2; simp at hlt2
      · rw [e] at hlt2; simp at hlt2
      · obtain rfl : a = some ⟨gg, o, none⟩ := by injection e
        obtain ⟨k1, t1, x1, sa, sn, sc, p1, l1, eb, q0, _, a9, a0, a1, a2, a3, a4, a5, a6, a7, a8⟩ := (hr.mono (w' := wr) (P' := P) (fun b' hb' => HW.out.block b' (HP.out b' hb')) (fun _ h => h) hgg).get hy
        have d1 : decide ((j : Int) < n) = true := by simpa using hlt
        have k5 : IntKind.i64.wrap ((j : Int) + 1) = (j : Int) + 1 := by rw [IntKind.wrap_i64]; omega
        have qgg := Nat.lt_of_lt_of_le (HP.out gg hgg) hwz
        have HU := Lib.hid (fun (w' : World) (h : Below wr.heap.size wr w') => uses_any (n := y.body) (c := trC k1 t1 x1 (.slice sa sn sc) p1) (P := P) w' HD.out (by have := HN.out; omega) (by have ho := owns_same HO.out ((HB.out.trans (h.mono hz)).block m qb); rwa [HN.out] at ho) (q0.mono (fun b' hb' => h.block b' (Nat.lt_of_lt_of_le (HP.out b' hb') hwz)) (fun _ h => h)) (fun b' hb' => Nat.lt_of_lt_of_le (Nat.lt_of_lt_of_le (HP.out b' hb') hwz) h.size) (okT_names (HA.out y hmem).2) (HBF.out y hmem) (HK.out y hmem))
        have HS := Lib.hid (rows_take hy)
        clear e hr eb q0 hy hmem
        dsimp only [trC] at HU
        repeat (first | go_values | go_skip | go_guarded | go_step | go_upon)
        refine (HU.out _ (bal (Below.refl _ wr) _)).mono ?_
        rintro e w3 ⟨us, u, rfl, hrow, hset, hnil, hb3⟩
        obtain rfl := usL_is hset
        obtain ⟨ua, un, uc, rfl⟩ : ∃ ua un uc, u = .slice ua un uc := by
          rcases hrow.2 with ⟨rfl, _⟩ | ⟨_, _, _, rfl, _⟩
          · exact ⟨_, _, _, rfl⟩
          · exact ⟨_, _, _, rfl⟩
        have kb3 : Below wr.heap.size wr w3 := (bal (Below.refl _ wr) _).trans (hb3.mono (by simp))
        have HC3 := Lib.hid (owns_below HC.out kb3)
        have HI3 := Lib.hid ((HI.out.below kb3).snoc (World.ownsRow.mono hrow (by simp; omega)))
        have HB3 := Lib.hid (HB.out.trans (kb3.mono hz))
        have hz3 := kb3.size
        clear hrow hset hnil hb3
        dsimp only
        repeat (first | (at_builtin; refine wpList_append_own _ rfl _ _ 46 rfl w2.heap.size 49 i0 (.slice none 0 0) 1 24 Tryz.underlying46 iH iz is ib rfl (by decide) _ _ _ rfl (HC3.out.alloc _) ⟨w3.heap.size, 0, none⟩ 1 1 [.slice ua un uc] rfl rfl ?c1 ?c2 ?c3 ?c4 ?c5 ?c6) | go_values | go_skip | go_guarded | go_step | go_upon)
        case c1 => exact cell_s_new w3 _ _
        case c2 => simp [Value.oneCell']
        case c3 => unfold maxLen; omega
        case c4 => omega
        case c5 => simp; omega
        case c6 =>
          intro v3 w4 hown3 hgr3 _
          have HO4 := Lib.hid hown3
          have hb4 : Below w2.heap.size w2 w4 := below_grown (bal HB3.out _) hgr3 (fun k hk => (HC3.out.lt k hk).1)
          have HI4 := Lib.hid ((HI3.out.below (bal (Below.refl _ w3) (.cells #[.slice ua un uc] 49))).kept hgr3 (fun k hk hlt => by
            rcases (HC3.out.alloc (.cells #[.slice ua un uc] 49)).2 with ⟨rfl, _⟩ | ⟨g', cap', cur, rfl, _, hgg', _⟩
            · cases hk
            · injection hk with hk
              subst hk
              exact ⟨cur, hgg'⟩))
          clear hown3 hgr3
          repeat (first | go_values | go_skip | go_guarded | go_step | go_upon)
          exact ⟨⟨j + 1, _, by go_num, by omega, HO4, Lib.hid (by rw [HS.out]; exact HI4.out), hb4⟩, by simp [intOf]; omega⟩
    · have d1 : decide ((j : Int) < n) = false := by simpa using hlt
      obtain rfl : j = n := by omega
      clear hlt
      have HI2 := Lib.hid (show InR wr w2.heap.size cells (rowsG g) by have := HI.out; rwa [HN.out, ← rowsG_len g, List.take_length] at this)
      repeat (first | go_values | go_skip | go_guarded | go_step | go_upon)
      go_ret2
      exact ⟨_, rfl, ⟨cells, by rw [← HN.out]; exact World.ownsRow.mono HC.out hw2.size, HI2.out.base_le hw2.size⟩, HW.out⟩
end Go.Proofs.YtjlcoldnhbkcgaaGreatDoor
namespace Go.Proofs.YtjlcoldnhbkcgaaGreatDoor
open Go.RowKit Go.Sort Go.Maps

theorem zero_bool (w : World) : (zeroValue 4).run Tryz.prog w = .ok (.bool false) w := by kernel_rfl
theorem bool_inv {P : Program} {e : TypeId} (he : P.underlying e = some .bool) {v : Value} {x : Bool} {ps : List MemPlace} (h : plainElem (H := Unit) P e v = some (.lit (.bool x), ps)) : v = .bool x := by
  unfold plainElem at h
  rw [he] at h
  cases v <;> simp at h
  rw [h.1]
/-- The map in a block holds the set. -/
def Sq (w : World) (b c : Nat) (p : Nat → Bool) : Prop := ∃ S : DataW Unit, w.ownsMap Tryz.prog 3 (plainElem Tryz.prog 4) b c S ∧ SetV p S
theorem Sq.lt {w : World} {b c : Nat} {p : Nat → Bool} (h : Sq w b c p) : b < w.heap.size := by
  obtain ⟨S, h, _⟩ := h
  exact h.lt
theorem Sq.same {w w' : World} {b c : Nat} {p : Nat → Bool} (h : Sq w b c p) (e : w'.heap[b]? = w.heap[b]?) : Sq w' b c p := by
  obtain ⟨S, h1, h2⟩ := h
  exact ⟨S, owns_same h1 e, h2⟩
theorem Sq.look {w : World} {b c : Nat} {p : Nat → Bool} (h : Sq w b c p) {i : Nat} (hi : i ≤ 1000000) : (Instr.lookup 73 (.map (some b)) (.int .i64 (i : Int)) false).run Tryz.prog w = .ok (.bool (p i)) w := by
  obtain ⟨S, h1, h2⟩ := h
  obtain ⟨v, ps, hrun, hv⟩ := h1.lookup int_law map_ib (zero_bool w) (plainElem_bool Tryz.underlying4 false) (key_int (wf_nat hi))
  rw [h2.2 i] at hv
  rw [hrun, bool_inv Tryz.underlying4 hv]
theorem Sq.put {w : World} {b c : Nat} {p : Nat → Bool} (h : Sq w b c p) {i : Nat} (hi : i ≤ 1000000) (hc : c < maxLen) : ∃ w', (Instr.mapUpdate 73 (.map (some b)) (.int .i64 (i : Int)) (.bool true)).run Tryz.prog w = .ok () w' ∧ Sq w' b (c + 1) (mark p i) ∧ w.grownBy w' (some b) := by
  obtain ⟨S, h1, h2⟩ := h
  obtain ⟨w', hrun, hown, hg⟩ := h1.update (val := .bool true) int_law map_ib hc (key_int (wf_nat hi)) (plainElem_bool Tryz.underlying4 true)
  exact ⟨w', hrun, ⟨_, hown, setV_put h2 h1.isMap⟩, hg⟩
/-- The variables of a visit. -/
structure VW (n0 sb sx ax vx n : Nat) (rows : List (List Nat)) (u : Value) (cells : List Value) (w0 : World) : Prop where
  s : w0.heap[sx]? = some (.cells #[.map (some sb)] 73 (0, 0))
  a : w0.heap[ax]? = some (.cells #[u] 46 (0, 0))
  v : w0.heap[vx]? = some (.cells #[.func (.func 31) #[] #[.pointer (some ⟨sx, 0, none⟩), .pointer (some ⟨ax, 0, none⟩), .pointer (some ⟨vx, 0, none⟩)]] 74 (0, 0))
  sl : sx < n0
  al : ax < n0
  vl : vx < n0
  bl : sb < n0
  sn : sx ≠ sb
  an : ax ≠ sb
  vn : vx ≠ sb
  own : w0.ownsRow 0 49 1 u n cells
  inr : InR w0 0 cells rows
  z : w0.heap.size ≤ n0
  mp : ∃ es cl, w0.heap[sb]? = some (.map es cl)
  ln : rows.length = n
  us : ∀ (i : Nat) (us : List Nat), rows[i]? = some us → (∀ x ∈ us, x < n) ∧ us.length ≤ 1000000
  nm : n ≤ 1000000
/-- What stands between two visits. -/
structure VSt (n0 sb n c : Nat) (p : Nat → Bool) (w0 W : World) : Prop where
  other : ∀ b, b < n0 → b ≠ sb → W.heap[b]? = w0.heap[b]?
  sq : Sq W sb c p
  ct : c + cntF n p ≤ n
theorem VSt.grown {n0 sb n c c' : Nat} {p p' : Nat → Bool} {w0 W W' : World} (h : VSt n0 sb n c p w0 W) (hn0 : n0 ≤ W.heap.size) (hg : W.grownBy W' (some sb)) (hs : Sq W' sb c' p') (hc : c' + cntF n p' ≤ n) : VSt n0 sb n c' p' w0 W' :=
  ⟨fun b hb hne => (hg.block b (Nat.lt_of_lt_of_le hb hn0) (fun e => hne (by injection e))).trans (h.other b hb hne), hs, hc⟩
/-- A row of the rows, in memory. -/
theorem VW.row {n0 sb sx ax vx n : Nat} {rows : List (List Nat)} {u : Value} {cells : List Value} {w0 : World} (h : VW n0 sb sx ax vx n rows u cells w0) {i : Nat} {us : List Nat} (hi : rows[i]? = some us) : ∃ g cap a m, u = .slice (some ⟨g, 0, none⟩) n cap ∧ i < n ∧ n ≤ cap ∧ g < n0 ∧ g ≠ sb ∧ w0.cell? ⟨g, i, none⟩ = some (.slice a us.length m) ∧ us.length ≤ m ∧ (us = [] ∨ ∃ b, a = some ⟨b, 0, none⟩ ∧ b < n0 ∧ b ≠ sb ∧ ∀ (k x : Nat), us[k]? = some x → w0.cell? ⟨b, k, none⟩ = some (.int .i64 (x : Int))) := by
  have hlt : i < n := by rw [← h.ln]; exact (List.getElem?_eq_some_iff.1 hi).1
  obtain ⟨es, cl, hmp⟩ := h.mp
  rcases h.own.2 with ⟨_, e⟩ | ⟨g, cap, cur, rfl, _, hg, hcap, _, _, htk⟩
  · omega
  · have hgl := (Array.getElem?_eq_some_iff.1 hg).1
    have hcl : cells.length = n := by have := h.own.1; omega
    have hci : cells[i]? = some cells[i] := List.getElem?_eq_getElem (by omega)
    have hcell : w0.cell? ⟨g, i, none⟩ = some cells[i] := by
      rw [h.own.cellAt i (by omega), hci]
    have hrow := h.inr.2 i _ us hci hi
    refine ⟨g, cap, ?_⟩
    rcases hrow.2 with ⟨e, h0⟩ | ⟨b, cap2, cur2, e, _, hb, hcap2, _, _, htk2⟩
    · rw [e] at hcell
      refine ⟨none, 0, rfl, hlt, hcap, Nat.lt_of_lt_of_le hgl h.z, ?_, by rw [hcell, h0], by omega, .inl (List.eq_nil_of_length_eq_zero h0)⟩
      rintro rfl
      rw [hg] at hmp
      injection hmp with hmp
      cases hmp
    · have hbl := (Array.getElem?_eq_some_iff.1 hb).1
      rw [e] at hcell hrow
      refine ⟨some ⟨b, 0, none⟩, cap2, rfl, hlt, hcap, Nat.lt_of_lt_of_le hgl h.z, ?_, hcell, hcap2, .inr ⟨b, rfl, Nat.lt_of_lt_of_le hbl h.z, ?_, fun k x hk => ?_⟩⟩
      · rintro rfl
        rw [hg] at hmp
        injection hmp with hmp
        cases hmp
      · rintro rfl
        rw [hb] at hmp
        injection hmp with hmp
        cases hmp
      · rw [hrow.cellAt k (by have := (List.getElem?_eq_some_iff.1 hk).1; omega), List.getElem?_map, hk]
        rfl
def VisC (n0 sb sx ax vx n : Nat) (rows : List (List Nat)) (w0 : World) (k : Nat) : Prop :=
  ∀ (i c : Nat) (p : Nat → Bool) (W : World), cntF n p ≤ k → i < n → n0 ≤ W.heap.size → VSt n0 sb n c p w0 W → Calls Tryz.prog 31 #[.int .i64 (i : Int), .pointer (some ⟨sx, 0, none⟩), .pointer (some ⟨ax, 0, none⟩), .pointer (some ⟨vx, 0, none⟩)] W (fun e W' => e = .returned (.tuple #[]) ∧ (∃ c' q, VisP rows p q i ∧ VSt n0 sb n c' q w0 W') ∧ Mid n0 W W')
set_option maxRecDepth 100000 in
set_option maxHeartbeats 6400000 in
theorem visit_any {n0 sb sx ax vx n : Nat} {rows : List (List Nat)} {u : Value} {cells : List Value} {w0 : World} (hV : VW n0 sb sx ax vx n rows u cells w0) : ∀ k, VisC n0 sb sx ax vx n rows w0 k := by
  intro k
  induction k with
  | zero =>
    intro i c p W hk hi hn0 hS
    have hp : p i = true := by
      cases hp : p i with
      | true => rfl
      | false =>
        have := cntF_lt (n := n) (p := p) (q := mark p i) (fun k h => by simp [mark, h]) hi hp (by simp [mark])
        omega
    have hnm := hV.nm
    have hrun := hS.sq.look (i := i) (by omega)
    rw [hp] at hrun
    have k4 := (hS.other sx hV.sl hV.sn).trans hV.s
    have f1 := (cells_at k4).1 0
    have f2 := (cells_at k4).2.2
    have HS := Lib.hid hS
    have HP := Lib.hid hp
    clear hS hp k4 hV
    go_enter Tryz.func31, Tryz.ntmps31
    repeat (first | go_values | go_skip | go_guarded | go_step | go_upon)
    refine bodyPost_ret (results_none rfl _ _ _) rfl ?_
    exact ⟨rfl, ⟨c, p, VisP.skip HP.out, HS.out⟩, Mid.refl _ _⟩
  | succ k ih =>
    intro i c p W hk hi hn0 hS
    have hnm := hV.nm
    have hrun := hS.sq.look (i := i) (by omega)
    have k4 := (hS.other sx hV.sl hV.sn).trans hV.s
    have f1 := (cells_at k4).1 0
    have f2 := (cells_at k4).2.2
    have HS := Lib.hid hS
    have HV := Lib.hid hV
    have HI := Lib.hid ih
    cases hp : p i with
    | true =>
      rw [hp] at hrun
      have HP := Lib.hid hp
      clear hS hp k4 hV ih
      go_enter Tryz.func31, Tryz.ntmps31
      repeat (first | go_values | go_skip | go_guarded | go_step | go_upon)
      refine bodyPost_ret (results_none rfl _ _ _) rfl ?_
      exact ⟨rfl, ⟨c, p, VisP.skip HP.out, HS.out⟩, Mid.refl _ _⟩
    | false =>
      rw [hp] at hrun
      have hlt := cntF_lt (n := n) (p := p) (q := mark p i) (fun k h => by simp [mark, h]) hi hp (by simp [mark])
      have hct := hS.ct
      obtain ⟨w2, hrun2, hsq2, hg2⟩ := hS.sq.put (i := i) (by omega) (show c < maxLen by unfold maxLen; omega)
      have hS2 := hS.grown hn0 hg2 hsq2 (by omega)
      have hz2 := hg2.size
      obtain ⟨us, hus⟩ : ∃ us, rows[i]? = some us := ⟨rows[i]'(by rw [hV.ln]; exact hi), List.getElem?_eq_getElem (by rw [hV.ln]; exact hi)⟩
      obtain ⟨gu, cap, ra, rm, rfl, _, hcap, hgu, hgs, hcell, hrm, hrow⟩ := hV.row hus
      have k5 := (hS2.other ax hV.al hV.an).trans hV.a
      have e1 := (cells_at k5).1 0
      have e2 := (cells_at k5).2.2
      have c1 : w2.cell? ⟨gu, i, none⟩ = some (.slice ra us.length rm) := (cell_block (a := ⟨gu, i, none⟩) (hS2.other gu hgu hgs)).trans hcell
      have hi2 : (i : Int) < (n : Int) := by omega
      have hP0 := VisL.start rows p i us
      have HP := Lib.hid hP0
      have HS2 := Lib.hid hS2
      have HU := Lib.hid hus
      have HR := Lib.hid hrow
      have HM := Lib.hid (show Mid n0 W w2 from ⟨hg2.os, hg2.tape, hg2.output, hg2.size, fun k h1 h2 => hg2.block k h2 (fun e => by injection e with e; have := hV.bl; omega)⟩)
      obtain ⟨m, hm⟩ : ∃ m, m = us.length := ⟨_, rfl⟩
      rw [← hm] at c1 hrm
      have hm6 := (hV.us i us hus).2
      rw [← hm] at hm6
      have HN := Lib.hid hm
      clear hS hp k4 hV ih hsq2 hg2 hS2 hus hcell hrow hP0 k5 hm
      go_enter Tryz.func31, Tryz.ntmps31
      repeat (first | go_values | go_skip | go_guarded | go_step | go_upon)
      go_loopw [17] (fun tt wr => ∃ (t c' : Nat) (q : Nat → Bool), tt = .int .i64 (t : Int) ∧ t ≤ m ∧ Hid (VisL rows p q i us t) ∧ Hid (VSt n0 sb n c' q w0 wr) ∧ Mid n0 W wr) (fun tt _ => m - (intOf tt).toNat)
      case atStart => exact ⟨0, c + 1, mark p i, rfl, Nat.zero_le _, HP, HS2, HM.out⟩
      case round =>
        obtain ⟨t, c', q, rfl, ht, HL, HSt, hM⟩ := hrel
        have HMr := Lib.hid hM
        have hzr := hM.size
        clear hM
        by_cases hlt2 : t < m
        · obtain ⟨x, hx⟩ : ∃ x, us[t]? = some x := ⟨us[t]'(by rw [← HN.out]; exact hlt2), List.getElem?_eq_getElem (by rw [← HN.out]; exact hlt2)⟩
          rcases HR.out with e | ⟨b, rfl, hbl, hbs, hcx⟩
          · rw [e] at hx; simp at hx
          · have cx : wr.cell? ⟨b, t, none⟩ = some (.int .i64 (x : Int)) := (cell_block (a := ⟨b, t, none⟩) (HSt.out.other b hbl hbs)).trans (hcx t x hx)
            have k6 := (HSt.out.other vx HV.out.vl HV.out.vn).trans HV.out.v
            have g1 := (cells_at k6).1 0
            have g2 := (cells_at k6).2.2
            have hxn := (HV.out.us i us HU.out).1 x (List.mem_of_getElem? hx)
            have hcq : cntF n q ≤ k := by
              have h1 := cntF_le (n := n) (p := mark p i) (q := q) (fun k h => by
                simp only [mark, Bool.or_eq_true, beq_iff_eq] at h
                rcases h with h | rfl
                · exact HL.out.sub k h
                · exact HL.out.has)
              omega
            have HC := Lib.hid (HI.out x c' q wr hcq hxn (Nat.le_trans hn0 hzr) HSt.out)
            have HX := Lib.hid hx
            have d1 : decide ((t : Int) < m) = true := by simpa using hlt2
            have k5 : IntKind.i64.wrap ((t : Int) + 1) = (t : Int) + 1 := by rw [IntKind.wrap_i64]; omega
            clear hx hcx k6 hcq
            repeat (first | go_values | go_skip | go_guarded | go_step | go_upon)
            refine HC.out.mono ?_
            rintro e w4 ⟨rfl, ⟨c4, q4, hv4, hs4⟩, hm4⟩
            have HL4 := Lib.hid (HL.out.next HU.out HX.out hv4)
            have HS4 := Lib.hid hs4
            have HM4 := Lib.hid (HMr.out.trans hm4)
            clear hv4 hs4 hm4
            dsimp only
            repeat (first | go_values | go_skip | go_guarded | go_step | go_upon)
            exact ⟨⟨t + 1, c4, q4, by go_num, by omega, HL4, HS4, HM4.out⟩, by simp [intOf]; omega⟩
        · have d1 : decide ((t : Int) < m) = false := by simpa using hlt2
          obtain rfl : t = m := by omega
          clear hlt2
          repeat (first | go_values | go_skip | go_guarded | go_step | go_upon)
          go_end0
          exact ⟨rfl, ⟨c', q, by have := HL.out; rw [HN.out] at this; exact this.done HU.out, HSt.out⟩, HMr.out⟩
end Go.Proofs.YtjlcoldnhbkcgaaGreatDoor
namespace Go.Proofs.YtjlcoldnhbkcgaaGreatDoor
open Go.RowKit Go.Sort Go.Maps Go.Shelf

set_option maxRecDepth 100000 in
set_option maxHeartbeats 6400000 in
theorem sReach_no {g : List Rr} {v : Value} {P : Nat → Prop} (w : World) (from_ : Int) (hg : Laid w) (hr : RepGr w P g v) (hP : ∀ b, P b → b < w.heap.size) (hb : Rr.bulks g ≤ 1000000000) (hc : ¬ CkOk g) : Calls Tryz.prog 16 #[.agg #[v], .int .i64 from_] w (fun e w' => (∃ v, e = .returned (.tuple #[.slice none 0 0, v]) ∧ ErrV v) ∧ Below w.heap.size w w') := by
  obtain ⟨a, cap, rfl, _⟩ := hr.slice
  have HX := Lib.hid (fun (w' : World) (h : Below w.heap.size w w') => sUses_no w' (hg.below h hg.pos) (hr.on hP h) (fun b hb => Nat.lt_of_lt_of_le (hP b hb) h.size) hb hc)
  have hm1 := cell_alloc_lt
  clear hg hr hP hb hc
  go_enter Tryz.func16, Tryz.ntmps16
  repeat (first | go_values | go_skip | go_guarded | go_step | go_upon)
  refine (HX.out _ (by repeat (first | exact Below.refl _ _ | assumption | refine bal ?_ _ | refine bdr ?_ | refine bdrn ?_ _ | (refine bset ?_ (by first | exact Nat.le_refl _ | (simp; done) | (simp; omega) | omega) _) | refine bstep ?_ (by assumption)))).mono ?_
  rintro e w2 ⟨⟨v, rfl, hv⟩, hb2⟩
  rcases hv with ⟨c, rfl⟩ | ⟨p, rfl⟩
  · dsimp only
    repeat (first | go_values | go_skip | go_guarded | go_step | go_upon)
    go_ret2
    exact ⟨⟨_, rfl, .inl ⟨_, rfl⟩⟩, (by repeat (first | exact Below.refl _ _ | assumption | refine bal ?_ _ | refine bdr ?_ | refine bdrn ?_ _ | (refine bset ?_ (by first | exact Nat.le_refl _ | (simp; done) | (simp; omega) | omega) _) | refine bstep ?_ (by assumption)))⟩
  · dsimp only
    repeat (first | go_values | go_skip | go_guarded | go_step | go_upon)
    go_ret2
    exact ⟨⟨_, rfl, .inr ⟨_, rfl⟩⟩, (by repeat (first | exact Below.refl _ _ | assumption | refine bal ?_ _ | refine bdr ?_ | refine bdrn ?_ _ | (refine bset ?_ (by first | exact Nat.le_refl _ | (simp; done) | (simp; omega) | omega) _) | refine bstep ?_ (by assumption)))⟩
theorem UsP.form {g : List Rr} {w w' : World} {u : Value} (h : UsP g w u w') (h0 : 0 < g.length) : ∃ gu cap, u = .slice (some ⟨gu, 0, none⟩) g.length cap ∧ w.heap.size ≤ gu ∧ gu < w'.heap.size := by
  obtain ⟨cells, h1, _⟩ := h
  rcases h1.2 with ⟨_, e⟩ | ⟨b, cap, cur, rfl, hb, hg, _⟩
  · omega
  · exact ⟨b, cap, rfl, hb, (Array.getElem?_eq_some_iff.1 hg).1⟩
set_option maxRecDepth 100000 in
set_option maxHeartbeats 6400000 in
theorem sReach_arg {g : List Rr} {v : Value} {P : Nat → Prop} (w : World) (from_ : Int) (hg : Laid w) (hr : RepGr w P g v) (hP : ∀ b, P b → b < w.heap.size) (hb : Rr.bulks g ≤ 1000000000) (hc : CkOk g) (hf : from_ < 0 ∨ (g.length : Int) ≤ from_) : Calls Tryz.prog 16 #[.agg #[v], .int .i64 from_] w (fun e w' => (∃ v, e = .returned (.tuple #[.slice none 0 0, v]) ∧ ErrV v) ∧ Below w.heap.size w w') := by
  obtain ⟨a, cap, rfl, _⟩ := hr.slice
  obtain ⟨_, hn0, _⟩ := okG_all hc.okg
  have HX := Lib.hid (fun (w' : World) (h : Below w.heap.size w w') => sUses_ok w' (hg.below h hg.pos) (hr.on hP h) (fun b hb => Nat.lt_of_lt_of_le (hP b hb) h.size) hb hc)
  have hm1 := cell_alloc_lt
  clear hg hr hP hb hc
  rcases Int.lt_or_le from_ 0 with h1 | h1
  · have d1 : decide (from_ < 0) = true := decide_eq_true h1
    clear hf h1
    go_enter Tryz.func16, Tryz.ntmps16
    repeat (first | go_values | go_skip | go_guarded | go_step | go_upon)
    refine (HX.out _ (bal (Below.refl _ w) _)).mono ?_
    rintro e w2 ⟨u, rfl, hu, hb2⟩
    obtain ⟨gu, ucap, rfl, _, _⟩ := hu.form hn0
    clear hu
    dsimp only
    repeat (first | go_values | go_skip | go_guarded | go_step | go_upon)
    go_ret2
    exact ⟨⟨_, rfl, .inl ⟨_, rfl⟩⟩, (by repeat (first | exact Below.refl _ _ | assumption | refine bal ?_ _ | refine bdr ?_ | refine bdrn ?_ _ | (refine bset ?_ (by first | exact Nat.le_refl _ | (simp; done) | (simp; omega) | omega) _) | refine bstep ?_ (by assumption)))⟩
  · have d1 : decide (from_ < 0) = false := decide_eq_false (by omega)
    have d2 : decide (from_ ≥ (g.length : Int)) = true := decide_eq_true (by omega)
    clear hf h1
    go_enter Tryz.func16, Tryz.ntmps16
    repeat (first | go_values | go_skip | go_guarded | go_step | go_upon)
    refine (HX.out _ (bal (Below.refl _ w) _)).mono ?_
    rintro e w2 ⟨u, rfl, hu, hb2⟩
    obtain ⟨gu, ucap, rfl, _, _⟩ := hu.form hn0
    clear hu
    dsimp only
    repeat (first | go_values | go_skip | go_guarded | go_step | go_upon)
    go_ret2
    exact ⟨⟨_, rfl, .inl ⟨_, rfl⟩⟩, (by repeat (first | exact Below.refl _ _ | assumption | refine bal ?_ _ | refine bdr ?_ | refine bdrn ?_ _ | (refine bset ?_ (by first | exact Nat.le_refl _ | (simp; done) | (simp; omega) | omega) _) | refine bstep ?_ (by assumption)))⟩
/-- A rising row of places. -/
def RowP (w : World) (base : Nat) (v : Value) (us : List Nat) : Prop := w.ownsRow base 3 1 v us.length (us.map encN)
set_option maxRecDepth 100000 in
set_option maxHeartbeats 6400000 in
theorem sReach_ok {g : List Rr} {v : Value} {P : Nat → Prop} (w : World) (f : Nat) (hg : Laid w) (hr : RepGr w P g v) (hP : ∀ b, P b → b < w.heap.size) (hb : Rr.bulks g ≤ 1000000000) (hc : CkOk g) (hf : f < g.length) : Calls Tryz.prog 16 #[.agg #[v], .int .i64 (f : Int)] w (fun e w' => (∃ (u : Value) (us : List Nat), e = .returned (.tuple #[u, .nilIface]) ∧ SetL (Rch (rowsG g) f) us ∧ RowP w' w.heap.size u us) ∧ Below w.heap.size w w') := by
  obtain ⟨a, cap, rfl, _⟩ := hr.slice
  obtain ⟨_, hn0, hn64⟩ := okG_all hc.okg
  have HX := Lib.hid (fun (w' : World) (h : Below w.heap.size w w') => sUses_ok w' (hg.below h hg.pos) (hr.on hP h) (fun b hb => Nat.lt_of_lt_of_le (hP b hb) h.size) hb hc)
  have hm1 := cell_alloc_lt
  have hmk : ∀ w : World, (Instr.makeMap 73 none).run Tryz.prog w = .ok (.map (some w.heap.size)) (w.alloc (.map #[] 0)) := fun w => rfl
  clear hg hr hP hb hc
  have d1 : decide ((f : Int) < 0) = false := decide_eq_false (by omega)
  have d2 : decide ((f : Int) ≥ (g.length : Int)) = false := decide_eq_false (by omega)
  go_enter Tryz.func16, Tryz.ntmps16
  repeat (first | go_values | go_skip | go_guarded | go_step | go_upon)
  refine (HX.out _ (bal (Below.refl _ w) _)).mono ?_
  rintro e w1 ⟨u, rfl, hu, hb1⟩
  obtain ⟨gu, ucap, rfl, hgu1, hgu2⟩ := hu.form hn0
  have HU := Lib.hid hu
  clear hu
  have HS4 := Lib.hid (((((bks_nil w1).push #[.slice (some ⟨gu, 0, none⟩) g.length ucap] 46 rfl).alloc (.map #[] 0)).push #[.map (some (w1.heap.size + 1))] 73 (b := w1.heap.size + 1 + 1) (by simp)).push #[.func (.func 31) #[] #[.pointer (some ⟨w1.heap.size + 1 + 1, 0, none⟩), .pointer (some ⟨w1.heap.size, 0, none⟩), .pointer (some ⟨w1.heap.size + 1 + 1 + 1, 0, none⟩)]] 74 (b := w1.heap.size + 1 + 1 + 1) (by simp))
  have HB4 := Lib.hid (bal (bal (bal (bal (Below.refl _ w1) (.cells #[.slice (some ⟨gu, 0, none⟩) g.length ucap] 46)) (.map #[] 0)) (.cells #[.map (some (w1.heap.size + 1))] 73)) (.cells #[.func (.func 31) #[] #[.pointer (some ⟨w1.heap.size + 1 + 1, 0, none⟩), .pointer (some ⟨w1.heap.size, 0, none⟩), .pointer (some ⟨w1.heap.size + 1 + 1 + 1, 0, none⟩)]] 74))
  obtain ⟨cells, hown, hinr⟩ := HU.out
  have HV : VW (w1.heap.size + 1 + 1 + 1 + 1) (w1.heap.size + 1) (w1.heap.size + 1 + 1) w1.heap.size (w1.heap.size + 1 + 1 + 1) g.length (rowsG g) (.slice (some ⟨gu, 0, none⟩) g.length ucap) cells ((((w1.alloc (.cells #[.slice (some ⟨gu, 0, none⟩) g.length ucap] 46)).alloc (.map #[] 0)).alloc (.cells #[.map (some (w1.heap.size + 1))] 73)).alloc (.cells #[.func (.func 31) #[] #[.pointer (some ⟨w1.heap.size + 1 + 1, 0, none⟩), .pointer (some ⟨w1.heap.size, 0, none⟩), .pointer (some ⟨w1.heap.size + 1 + 1 + 1, 0, none⟩)]] 74)) := by
    refine ⟨HS4.out.2.1, HS4.out.2.2.1, HS4.out.1, by omega, by omega, by omega, by omega, by omega, by omega, by omega, World.ownsRow.mono (owns_below hown HB4.out) (Nat.zero_le _), (hinr.below HB4.out).base_le (Nat.zero_le _), by simp, ?_, rowsG_len g, fun i us hi => ⟨rowsG_lt hi, ?_⟩, by omega⟩
    · have h := heap_alloc_new (w1.alloc (.cells #[.slice (some ⟨gu, 0, none⟩) g.length ucap] 46)) (.map #[] 0)
      simp only [World.size_alloc] at h
      exact ⟨_, _, (RowKit.Below.heap_alloc _ _ _ (by simp)).trans ((RowKit.Below.heap_alloc _ _ _ (by simp)).trans h)⟩
    · unfold rowsG at hi
      rw [List.getElem?_map, Option.map_eq_some_iff] at hi
      obtain ⟨y, _, rfl⟩ := hi
      have := List.length_filter_le (fun i => (rfT y.body).any (fun x => fdx g x.1 == some i)) (List.range g.length)
      rw [List.length_range] at this
      unfold usL
      omega
  have hsq : Sq ((((w1.alloc (.cells #[.slice (some ⟨gu, 0, none⟩) g.length ucap] 46)).alloc (.map #[] 0)).alloc (.cells #[.map (some (w1.heap.size + 1))] 73)).alloc (.cells #[.func (.func 31) #[] #[.pointer (some ⟨w1.heap.size + 1 + 1, 0, none⟩), .pointer (some ⟨w1.heap.size, 0, none⟩), .pointer (some ⟨w1.heap.size + 1 + 1 + 1, 0, none⟩)]] 74)) (w1.heap.size + 1) 0 (fun _ => false) := by
    have h := ((World.ownsMap_made (w1.alloc (.cells #[.slice (some ⟨gu, 0, none⟩) g.length ucap] 46)) Tryz.prog 3 (plainElem (H := Unit) Tryz.prog 4)).alloc (.cells #[.map (some (w1.heap.size + 1))] 73)).alloc (.cells #[.func (.func 31) #[] #[.pointer (some ⟨w1.heap.size + 1 + 1, 0, none⟩), .pointer (some ⟨w1.heap.size, 0, none⟩), .pointer (some ⟨w1.heap.size + 1 + 1 + 1, 0, none⟩)]] 74)
    simp only [World.size_alloc] at h
    exact ⟨.map [], h, setV_nil⟩
  have HC := Lib.hid (visit_any HV g.length f 0 (fun _ => false) ((((w1.alloc (.cells #[.slice (some ⟨gu, 0, none⟩) g.length ucap] 46)).alloc (.map #[] 0)).alloc (.cells #[.map (some (w1.heap.size + 1))] 73)).alloc (.cells #[.func (.func 31) #[] #[.pointer (some ⟨w1.heap.size + 1 + 1, 0, none⟩), .pointer (some ⟨w1.heap.size, 0, none⟩), .pointer (some ⟨w1.heap.size + 1 + 1 + 1, 0, none⟩)]] 74)) (by rw [cntF_start]; exact Nat.le_refl _) hf (by simp) ⟨fun _ _ _ => rfl, hsq, by rw [cntF_start]; omega⟩)
  have HVV := Lib.hid HV
  have HB0 := Lib.hid (show Below w.heap.size w w1 from (bal (Below.refl _ w) _).trans (hb1.mono (by simp)))
  obtain ⟨v0, qv⟩ := cells1 HS4.out.1
  have fv := (cells_at HS4.out.1).2.1
  clear hown hinr HV hsq
  dsimp only
  repeat (first | go_values | go_skip | go_guarded | go_step | go_upon)
  refine HC.out.mono ?_
  rintro e w5 ⟨rfl, ⟨c', q, hvis, hst⟩, hm5⟩
  obtain ⟨S, hownS, hsetV⟩ := hst.sq
  have k4 := (hst.other _ HVV.out.sl HVV.out.sn).trans HVV.out.s
  obtain ⟨k1, qk⟩ := cells1 k4
  have hct := hst.ct
  have HS := Lib.hid hsetV.1
  have HO := Lib.hid hownS
  have HVI := Lib.hid hvis
  have hsz := hownS.size_le
  have hz5 := hm5.size
  simp at hz5
  have HB5 := Lib.hid (show Below w.heap.size w w5 from HB0.out.trans ⟨hm5.os.trans rfl, hm5.tape.trans rfl, hm5.output.trans rfl, by have := HB0.out.size; omega, fun b hb => (hst.other b (by have := HB0.out.size; omega) (by have := HB0.out.size; omega)).trans (HB4.out.block b (by have := HB0.out.size; omega))⟩)
  clear hvis hst hm5 hownS hsetV k4
  dsimp only
  repeat (first | go_values | go_skip | go_guarded | go_step | go_upon)
  refine (keys_any (some (w1.heap.size + 1)) w5).mono ?_
  rintro e w6 ⟨rfl, rfl⟩
  dsimp only
  repeat (first | go_values | go_skip | go_guarded | go_step | go_upon)
  refine (sorted_keys (w1.heap.size + 1) _ S _ w5 HO.out (by unfold maxLen; omega) (by omega)).mono ?_
  rintro e w7 ⟨v, ss, rfl, hperm, hrow, hnil, hb7⟩
  obtain ⟨us, hmap, hsl, hl2⟩ := setL_of HS.out (HO.out.tidy int_law) hperm
  rw [hmap, ← hl2] at hrow
  have HR7 := Lib.hid hrow
  have HSL := Lib.hid (show SetL (Rch (rowsG g) f) us from ⟨hsl.1, fun i => (hsl.2 i).trans (HVI.out.all i)⟩)
  have HB7 := Lib.hid (show Below w.heap.size w w7 from HB5.out.trans (((bal (Below.refl _ w5) _).trans (hb7.mono (by simp))).mono HB5.out.size))
  clear hmap hrow hnil hperm hsl hl2 hb7
  dsimp only
  repeat (first | go_values | go_skip | go_guarded | go_step | go_upon)
  go_ret2
  exact ⟨⟨_, us, rfl, HSL.out, ownsRow_base_a HR7.out (by have := HB5.out.size; simp; omega)⟩, HB7.out⟩
end Go.Proofs.YtjlcoldnhbkcgaaGreatDoor
namespace Go.Proofs.YtjlcoldnhbkcgaaGreatDoor
open Go.RowKit Go.Sort

set_option maxRecDepth 100000 in
set_option maxHeartbeats 6400000 in
theorem small6_any (w : World) (hg : Laid w) : Calls Tryz.prog 14 #[] w (Ans (.bool true) w) := by
  have HR := Lib.hid (show Reads (bl ⟨#[97, 32, 60, 45, 32, 98, 32, 99, 32, 98, 32, 60, 45, 32, 99, 32, 99, 32, 60, 45, 32, 46, 32, 100, 32, 60, 45, 32, 97]⟩) _ from small6_reads)
  have HY := Lib.hid (show Reads (bl ⟨#[97, 32, 60, 45, 32, 120, 32, 47, 32, 121]⟩) _ from smallY_reads)
  have HL := Lib.hid hg
  have HL1 := Lib.hid (fun (W : World) (h : Below w.heap.size w W) => HL.out.below h HL.out.pos)
  have hm1 := cell_alloc_lt
  clear hg
  go_enter Tryz.func14, Tryz.ntmps14
  repeat (first | go_values | go_skip | go_guarded | go_step | go_upon)
  refine (syn_inr ⟨#[97, 32, 60, 45, 32, 98, 32, 99, 32, 98, 32, 60, 45, 32, 99, 32, 99, 32, 60, 45, 32, 46, 32, 100, 32, 60, 45, 32, 97]⟩ _ HL.out (by decide) HR.out).mono ?_
  rintro e w1 ⟨⟨v, rfl, hG⟩, hb1⟩
  obtain ⟨a, cap, rfl⟩ := gbulk hG
  have HG := Lib.hid hG.anyG
  have HB1 := Lib.hid (bal hb1 (.cells #[.slice a small6G.length cap] 24))
  clear hG
  dsimp only
  repeat (first | go_values | go_skip | go_guarded | go_step | go_upon)
  refine (sReach_ok (g := small6G.map Ru.rr) _ 0 (HL1.out _ HB1.out) (HG.out.mono (fun b hb => RowKit.Below.heap_alloc _ _ _ hb.2) (fun _ h => h)) (fun b hb => by have := hb.2; simp; omega) small6_bulk small6_ck (by simp [small6G])).mono ?_
  rintro e w2 ⟨⟨u, us, rfl, hset, hrow⟩, hb2⟩
  obtain rfl := small6_set hset
  obtain ⟨gu, ucap, rfl, _, qu⟩ := World.ownsRow.form hrow (by decide)
  have HO2 := Lib.hid hrow
  have HB2 := Lib.hid (HB1.out.trans (hb2.mono HB1.out.size))
  clear hset hrow hb2
  dsimp only [List.length]
  repeat (first | go_values | go_skip | go_guarded | go_step | go_upon)
  refine (syn_inr ⟨#[97, 32, 60, 45, 32, 120, 32, 47, 32, 121]⟩ _ (HL1.out _ HB2.out) (by decide) HY.out).mono ?_
  rintro e w3 ⟨⟨v3, rfl, hG3⟩, hb3⟩
  obtain ⟨a3, cap3, rfl⟩ := gbulk hG3
  have HG3 := Lib.hid hG3.anyG
  have HB3 := Lib.hid (bal (HB2.out.trans (hb3.mono HB2.out.size)) (.cells #[.slice a3 smallYG.length cap3] 24))
  have HO3 := Lib.hid (owns_below HO2.out hb3)
  clear hG3 hb3
  dsimp only
  repeat (first | go_values | go_skip | go_guarded | go_step | go_upon)
  refine (check_any (g := smallYG.map Ru.rr) _ (HL1.out _ HB3.out) (HG3.out.mono (fun b hb => RowKit.Below.heap_alloc _ _ _ hb.2) (fun _ h => h)) (fun b hb => by have := hb.2; simp; omega) smallY_bulk).mono ?_
  rintro e w4 ⟨⟨r, v4, hck, rfl, hcv⟩, hb4⟩
  obtain rfl := smallY_ck hck
  obtain ⟨p, rfl, hF⟩ := hcv
  have HB4 := Lib.hid (HB3.out.trans (hb4.mono HB3.out.size))
  have HO4 := Lib.hid (owns_below (HO3.out.alloc _) hb4)
  have HF := Lib.hid hF
  have c2 : w4.cell? ⟨gu, 2, none⟩ = some (.int .i64 2) := HO4.out.cellAt 2 (by decide)
  have qu4 := (HO4.out.lt gu rfl).2
  clear hck hF hb4
  dsimp only
  repeat (first | go_values | go_skip | go_guarded | go_step | go_upon)
  refine (code_I (HL1.out _ HB4.out) HF.out rfl).mono ?_
  rintro e w5 ⟨rfl, hb5⟩
  have HF5 := Lib.hid (HF.out.below hb5)
  have HB5 := Lib.hid (HB4.out.trans (hb5.mono HB4.out.size))
  clear hb5
  dsimp only
  repeat (first | go_values | go_skip | go_guarded | go_step | go_upon)
  refine (at_I (HL1.out _ HB5.out) HF5.out rfl).mono ?_
  rintro e w6 ⟨rfl, hb6⟩
  have HB6 := Lib.hid (HB5.out.trans (hb6.mono HB5.out.size))
  clear hb6
  dsimp only
  repeat (first | go_values | go_skip | go_guarded | go_step | go_upon)
  go_ret
  exact ⟨rfl, HB6.out⟩
end Go.Proofs.YtjlcoldnhbkcgaaGreatDoor
namespace Go.Proofs.YtjlcoldnhbkcgaaGreatDoor
open Go.RowKit

theorem fdx_more {g : List Rr} {z : Rr} {n : List UInt8} (h : (fdx g n).isSome = true) : fdx (g ++ [z]) n = fdx g n := by
  obtain ⟨k, hk⟩ := Option.isSome_iff_exists.1 h
  rw [fdx_snoc, hk]
  rfl
theorem rfP_more {g : List Rr} {z : Rr} {l : List (List UInt8 × Int)} (h : l.all (known g) = true) (i : Nat) : RfP (g ++ [z]) l i ↔ RfP g l i := by
  constructor
  · rintro ⟨x, hx, e⟩
    exact ⟨x, hx, by rwa [fdx_more (List.all_eq_true.1 h x hx)] at e⟩
  · rintro ⟨x, hx, e⟩
    exact ⟨x, hx, by rwa [fdx_more (List.all_eq_true.1 h x hx)]⟩
theorem usL_more {g : List Rr} {z : Rr} {n : Tr} (h : (rfT n).all (known g) = true) : usL (g ++ [z]) n = usL g n := by
  refine (usL_set (g ++ [z]) n).det ⟨(usL_set g n).1, fun i => ?_⟩
  rw [(usL_set g n).2 i, rfP_more h]
theorem rows_more {g : List Rr} {z : Rr} (hk : ∀ y ∈ g, (rfT y.body).all (known g) = true) {i : Nat} (hi : i < g.length) : (rowsG (g ++ [z]))[i]? = (rowsG g)[i]? := by
  have h1 : g[i]? = some g[i] := List.getElem?_eq_getElem hi
  have h2 : (g ++ [z])[i]? = some g[i] := by rw [List.getElem?_append_left hi, h1]
  rw [rowsG_get h1, rowsG_get h2, usL_more (hk _ (List.mem_of_getElem? h1))]
theorem rch_more {g : List Rr} {z : Rr} (hk : ∀ y ∈ g, (rfT y.body).all (known g) = true) {a k : Nat} (ha : a < g.length) : Rch (rowsG (g ++ [z])) a k ↔ Rch (rowsG g) a k := by
  constructor
  · intro h
    have h2 : Rch (rowsG g) a k ∧ k < g.length := by
      induction h with
      | self => exact ⟨.self, ha⟩
      | step _ h1 h2 ih =>
        rw [rows_more hk ih.2] at h1
        have := Rch.step ih.1 h1 h2
        exact ⟨this, this.lt ha⟩
    exact h2.1
  · intro h
    induction h with
    | self => exact .self
    | step h0 h1 h2 ih =>
      rw [← rows_more (z := z) hk (h0.lt ha)] at h1
      exact .step ih h1 h2
theorem more_same {g : List Rr} {z : Rr} (hk : ∀ y ∈ g, (rfT y.body).all (known g) = true) {a : Nat} (ha : a < g.length) {r s : List Nat} (hr : SetL (Rch (rowsG g) a) r) (hs : SetL (Rch (rowsG (g ++ [z])) a) s) : r = s :=
  hr.det ⟨hs.1, fun i => (hs.2 i).trans (rch_more hk ha)⟩
/-- The place of a name, among the first rules. -/
def atV (g : List Rr) (n : List UInt8) (j : Nat) : Int := match fdx g n with
  | some i => if i < j then (i : Int) else -1
  | none => -1
theorem atV_zero (g : List Rr) (n : List UInt8) : atV g n 0 = -1 := by
  unfold atV
  split <;> rfl
theorem atV_hit {g : List Rr} (ha : Apart g) {j : Nat} {y : Rr} (hy : g[j]? = some y) {n : List UInt8} (hn : y.name = n) : atV g n (j + 1) = (j : Int) := by
  have := ha j y hy
  rw [hn] at this
  rw [atV, this]
  simp
theorem atV_miss {g : List Rr} (_ : Apart g) {j : Nat} {y : Rr} (hy : g[j]? = some y) {n : List UInt8} (hn : y.name ≠ n) : atV g n (j + 1) = atV g n j := by
  unfold atV
  cases h : fdx g n with
  | none => rfl
  | some i =>
    have : i ≠ j := by
      rintro rfl
      obtain ⟨⟨z, h1, h2⟩, _⟩ := fdx_some.1 h
      rw [hy] at h1
      injection h1 with h1
      exact hn (by rw [h1]; exact h2)
    dsimp only
    by_cases h1 : i < j
    · rw [if_pos h1, if_pos (by omega)]
    · rw [if_neg h1, if_neg (by omega)]
theorem atV_end (g : List Rr) (n : List UInt8) : atV g n g.length = fdV g n := by
  unfold atV fdV
  cases h : fdx g n with
  | none => rfl
  | some i => dsimp only; rw [if_pos (fdx_lt h)]
end Go.Proofs.YtjlcoldnhbkcgaaGreatDoor
