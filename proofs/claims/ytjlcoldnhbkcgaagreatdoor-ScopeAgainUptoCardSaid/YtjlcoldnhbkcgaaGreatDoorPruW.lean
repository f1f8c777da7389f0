/- scope.Prune. -/
import Derived.Test.YtjlcoldnhbkcgaaGreatDoorPruP
import Derived.Test.YtjlcoldnhbkcgaaGreatDoorCopP
import Derived.Test.YtjlcoldnhbkcgaaGreatDoorG46
namespace Go.Proofs.YtjlcoldnhbkcgaaGreatDoor
open Go.RowKit Go.Sort

theorem info_ru : (Tryz.prog.info? 42).map (fun i => (i.zero, i.size, i.bytes)) = some (some (.agg #[.string ⟨#[]⟩, .int .i64 0, .string ⟨#[]⟩, .int .u64 0, .int .u64 0, .int .u64 0, .int .u64 0, .slice none 0 0, .int .i64 0, .int .i64 0]), 10, 112) := by kernel_rfl
set_option maxRecDepth 100000 in
set_option maxHeartbeats 6400000 in
theorem prune_no {g : List Rr} {v : Value} {P : Nat → Prop} (w : World) (hg : Laid w) (hr : RepGr w P g v) (hP : ∀ b, P b → b < w.heap.size) (hb : Rr.bulks g ≤ 1000000000) (hc : ¬ CkOk g) : Calls Tryz.prog 20 #[.agg #[v]] w (fun e w' => (∃ v, e = .returned (.tuple #[.agg #[.slice none 0 0], v]) ∧ ErrV v) ∧ Below w.heap.size w w') := by
  obtain ⟨a, cap, rfl, _⟩ := hr.slice
  have HX := Lib.hid (fun (w' : World) (h : Below w.heap.size w w') => sReach_no w' 0 (hg.below h hg.pos) (hr.on hP h) (fun b hb => Nat.lt_of_lt_of_le (hP b hb) h.size) hb hc)
  have HS0 := Lib.hid (((bks_nil w).push #[.slice a g.length cap] 24 rfl).push #[.slice none 0 0] 24 (b := w.heap.size + 1) (by simp))
  have hm1 := cell_alloc_lt
  clear hg hr hP hb hc
  go_enter Tryz.func20, Tryz.ntmps20
  repeat (first | go_values | go_skip | go_guarded | go_step | go_upon)
  refine (HX.out _ (bal (bal (Below.refl _ w) _) _)).mono ?_
  rintro e w2 ⟨⟨v, rfl, hv⟩, hb2⟩
  have HS2 := Lib.hid (HS0.out.below hb2)
  obtain ⟨c0, q0⟩ := cells1 HS2.out.1
  have fz := (cells_at HS2.out.1).2.1
  have hst := heap_setCell_same _ _ 0 _ _ (.slice none 0 0) HS2.out.1
  have s0 := (cells_at hst).1 0
  simp at s0
  have HBE := Lib.hid (show Below w.heap.size w (w2.setCell ⟨w.heap.size + 1, 0, none⟩ (.slice none 0 0)) from (((bal (bal (Below.refl _ w) _) _).trans (hb2.mono (by simp; omega))).setCell (by simp) _))
  clear hst hb2
  rcases hv with ⟨c, rfl⟩ | ⟨p, rfl⟩
  · dsimp only
    repeat (first | go_values | go_skip | go_guarded | go_step | go_upon)
    refine bodyPost_ret (v := .tuple #[.agg #[.slice none 0 0], .iface 66 (.int .i64 c)]) (by simp [results, Tryz.results20, go_sem, s0]; done) rfl ⟨⟨_, rfl, .inl ⟨_, rfl⟩⟩, HBE.out⟩
  · dsimp only
    repeat (first | go_values | go_skip | go_guarded | go_step | go_upon)
    refine bodyPost_ret (v := .tuple #[.agg #[.slice none 0 0], .iface 79 (.pointer (some ⟨p, 0, none⟩))]) (by simp [results, Tryz.results20, go_sem, s0]; done) rfl ⟨⟨_, rfl, .inr ⟨_, rfl⟩⟩, HBE.out⟩
set_option maxRecDepth 100000 in
set_option maxHeartbeats 6400000 in
theorem prune_ok {g : List Rr} {v : Value} {P : Nat → Prop} (w : World) (hg : Laid w) (hr : RepGr w P g v) (hP : ∀ b, P b → b < w.heap.size) (hb : Rr.bulks g ≤ 1000000000) (hc : CkOk g) : Calls Tryz.prog 20 #[.agg #[v]] w (fun e w' => (∃ (v : Value) (us : List Nat), e = .returned (.tuple #[.agg #[v], .nilIface]) ∧ SetL (Rch (rowsG g) 0) us ∧ RepGr w' (fun b => w.heap.size ≤ b ∧ b < w'.heap.size) (prG g us) v) ∧ Below w.heap.size w w') := by
  obtain ⟨n, hn⟩ : ∃ n, n = g.length := ⟨_, rfl⟩
  obtain ⟨a, cap, rfl, hcap, _⟩ := hr.slice
  obtain ⟨hall, hn0, hn64⟩ := okG_all hc.okg
  have HX := Lib.hid (fun (w' : World) (h : Below w.heap.size w w') => sReach_ok w' 0 (hg.below h hg.pos) (hr.on hP h) (fun b hb => Nat.lt_of_lt_of_le (hP b hb) h.size) hb hc hn0)
  have HCO := Lib.hid (fun (y : Rr) (hy : y ∈ g) => copied_any y.body (by have := bulk_rule hy; rw [Rr.bulk] at this; omega))
  have HR := Lib.hid hr
  have HP := Lib.hid hP
  have HN0 := Lib.hid hn0
  have HS0 := Lib.hid (((bks_nil w).push #[.slice a g.length cap] 24 rfl).push #[.slice none 0 0] 24 (b := w.heap.size + 1) (by simp))
  rw [← hn] at HX HR HS0 hcap hn64 ⊢
  have HN := Lib.hid hn
  have hm1 := cell_alloc_lt
  obtain ⟨i0, iH, iz, is, ib⟩ := info_parts info_ru
  clear hg hr hP hb hc hn hall hn0
  go_enter Tryz.func20, Tryz.ntmps20
  repeat (first | go_values | go_skip | go_guarded | go_step | go_upon)
  refine (HX.out _ (bal (bal (Below.refl _ w) _) _)).mono ?_
  rintro e w1 ⟨⟨lv, us, rfl, hset, hrow⟩, hb1⟩
  obtain ⟨hcls, hz0⟩ := reach_cls HN0.out hset
  have h0u : 0 < us.length := (List.getElem?_eq_some_iff.1 hz0).1
  obtain ⟨gl, lcap, rfl, hgl, hgl2⟩ := World.ownsRow.form hrow h0u
  have HSET := Lib.hid hset
  have HCL := Lib.hid hcls
  have HROW := Lib.hid hrow
  have HS1 := Lib.hid (HS0.out.below hb1)
  have HB1 := Lib.hid (show Below w.heap.size w w1 from (bal (bal (Below.refl _ w) _) _).trans (hb1.mono (by simp; omega)))
  have hz1 := hb1.size
  simp only [World.size_alloc] at hz1 hgl
  obtain ⟨m, hm⟩ : ∃ m, m = us.length := ⟨_, rfl⟩
  rw [← hm] at h0u ⊢
  have HM := Lib.hid hm
  have hm64 : m ≤ 64 := by
    have := (prG_sub g us 0 hcls.rise (fun i hi => ⟨Nat.zero_le _, hcls.lt i hi⟩)).length_le
    rw [prG_len, List.drop_zero] at this
    have := HN.out
    omega
  clear hset hcls hrow hb1 hz0 hm
  dsimp only
  repeat (first | go_values | go_skip | go_guarded | go_step | go_upon)
  go_loopw [21] (fun tt wr => ∃ (j : Nat) (v : Value) (cs : List Value), tt = .int .i64 (j : Int) ∧ j ≤ m ∧ Hid (wr.ownsRow (w1.heap.size + 1) 42 10 v j cs) ∧ Hid (RrReps wr (fun b => w1.heap.size < b ∧ b < wr.heap.size ∧ some b ≠ v.ownBlock) (prG g (us.take j)) cs) ∧ Hid (wr.heap[w1.heap.size]? = some (.cells #[v] 24 (0, 0))) ∧ Below w1.heap.size w1 wr) (fun tt _ => m - (intOf tt).toNat)
  case atStart => exact ⟨0, .slice none 0 0, [], rfl, Nat.zero_le _, Lib.hid (World.ownsRow_nil _ _ _ _), Lib.hid .nil, Lib.hid (heap_alloc_new w1 _), bal (Below.refl _ _) _⟩
  case round =>
    obtain ⟨j, v, cs, rfl, hj, HO, HRr, HV, hb⟩ := hrel
    have HB := Lib.hid hb
    have hz := hb.size
    have HW := Lib.hid (HB1.out.trans (hb.mono HB1.out.size))
    have hwz := HW.out.size
    have hS := HS1.out.below hb
    obtain ⟨g0, qg⟩ := cells1 hS.2.1
    obtain ⟨c0, q0⟩ := cells1 hS.1
    have fz0 := (cells_at hS.1).2.1
    obtain ⟨v0, qv⟩ := cells1 HV.out
    have fzv := (cells_at HV.out).2.1
    have HS := Lib.hid hS
    clear hb hS
    by_cases hlt : j < m
    · have hlt2 : j < us.length := by rw [← HM.out]; exact hlt
      obtain ⟨i, hi⟩ : ∃ i, us[j]? = some i := ⟨us[j], List.getElem?_eq_getElem hlt2⟩
      have hin : i < g.length := HCL.out.lt i (List.mem_of_getElem? hi)
      obtain ⟨y, hy⟩ : ∃ y, g[i]? = some y := ⟨g[i], List.getElem?_eq_getElem hin⟩
      have hmem := List.mem_of_getElem? hy
      have hin2 : (i : Int) < (n : Int) := by have := HN.out; omega
      have cl : wr.cell? ⟨gl, j, none⟩ = some (.int .i64 (i : Int)) := by
        rw [HB.out.cell (p := ⟨gl, j, none⟩) hgl2, HROW.out.cellAt j (by omega), List.getElem?_map, hi]
        rfl
      have htk : prG g (us.take (j + 1)) = prG g (us.take j) ++ [y] := by
        rw [List.take_add_one, hi, prG, prG, List.map_append]
        simp [List.getD_eq_getElem?_getD, hy]
      have HT := Lib.hid htk
      rcases HR.out.parts with ⟨e, _⟩ | ⟨e, _⟩ | ⟨gg, o, cap', e, hgg, _, hcp, hmx, hr⟩
      · rw [e] at hin; simp at hin
      · rw [e] at hin; simp at hin
      · obtain rfl : a = some ⟨gg, o, none⟩ := by injection e
        obtain ⟨k1, t1, x1, sa, sn, sc, p1, l1, eb, hb0, _, a9, a0, a1, a2, a3, a4, a5, a6, a7, a8⟩ := (hr.mono (w' := wr) (P' := P) (fun b' hb' => HW.out.block b' (HP.out b' hb')) (fun _ h => h) hgg).get hy
        have d1 : decide ((j : Int) < m) = true := by simpa using hlt
        have k5 : IntKind.i64.wrap ((j : Int) + 1) = (j : Int) + 1 := by rw [IntKind.wrap_i64]; omega
        have qgg := Nat.lt_of_lt_of_le (HP.out gg hgg) hwz
        have HX2 := Lib.hid (fun (W : World) (h : Below wr.heap.size wr W) => HCO.out y hmem W P _ (hb0.mono (w' := W) (fun b hb => h.block b (Nat.lt_of_lt_of_le (HP.out b hb) hwz)) (fun _ h => h)) (fun b hb => Nat.lt_of_lt_of_le (Nat.lt_of_lt_of_le (HP.out b hb) hwz) h.size))
        have HEB := Lib.hid eb
        clear e hr eb hb0 hy hmem hi hin htk
        dsimp only [trC] at HX2
        repeat (first | go_values | go_skip | go_guarded | go_step | go_upon)
        refine (HX2.out _ (bal (Below.refl _ wr) _)).mono ?_
        rintro e w2 ⟨⟨ds, rfl, hds⟩, hb2⟩
        have hds2 := hds
        rw [HEB.out] at hds2
        obtain ⟨sa9, sc9, rfl, hl9⟩ := hds2.subs
        have kw2 : Below wr.heap.size wr w2 := (bal (Below.refl _ wr) _).trans (hb2.mono (by simp))
        have hrb := (hb2.block wr.heap.size (by simp)).trans (heap_alloc_new wr _)
        have fzr := (cells_at hrb).2.1
        obtain ⟨r0, r1, r2, r3, r4, r5, r6, r7, r8, r9, qr⟩ := cells10 hrb
        have hset := heap_set8r hrb (.int .i64 k1) (.string (mkS t1)) (.int .u64 (wd x1 0)) (.int .u64 (wd x1 1)) (.int .u64 (wd x1 2)) (.int .u64 (wd x1 3)) (.slice sa9 l1.length sc9) (.int .i64 p1)
        obtain ⟨s0, s1, s2, s3, s4, s5, s6, s7, s8, s9, qs⟩ := cells10 hset
        have hv3 := (heap_set8_ne (w := w2) (b := wr.heap.size) (c := w1.heap.size) (by omega) 1 2 3 4 5 6 7 8 (.int .i64 k1) (.string (mkS t1)) (.int .u64 (wd x1 0)) (.int .u64 (wd x1 1)) (.int .u64 (wd x1 2)) (.int .u64 (wd x1 3)) (.slice sa9 l1.length sc9) (.int .i64 p1)).trans ((kw2.block _ qv).trans HV.out)
        obtain ⟨t0, qt⟩ := cells1 hv3
        have hz2 := kw2.size
        have hO3 : ((((((((w2.setCell ⟨wr.heap.size, 1, none⟩ (.int .i64 k1)).setCell ⟨wr.heap.size, 2, none⟩ (.string (mkS t1))).setCell ⟨wr.heap.size, 3, none⟩ (.int .u64 (wd x1 0))).setCell ⟨wr.heap.size, 4, none⟩ (.int .u64 (wd x1 1))).setCell ⟨wr.heap.size, 5, none⟩ (.int .u64 (wd x1 2))).setCell ⟨wr.heap.size, 6, none⟩ (.int .u64 (wd x1 3))).setCell ⟨wr.heap.size, 7, none⟩ (.slice sa9 l1.length sc9)).setCell ⟨wr.heap.size, 8, none⟩ (.int .i64 p1)).ownsRow (w1.heap.size + 1) 42 10 v j cs := (owns_below HO.out kw2).kept (gset8 w2 wr.heap.size 1 2 3 4 5 6 7 8 (.int .i64 k1) (.string (mkS t1)) (.int .u64 (wd x1 0)) (.int .u64 (wd x1 1)) (.int .u64 (wd x1 2)) (.int .u64 (wd x1 3)) (.slice sa9 l1.length sc9) (.int .i64 p1)) (by
          cases ho : v.ownBlock with
          | none => exact .inl rfl
          | some k => right; intro e; injection e with e; have := (HO.out.lt k ho).2; omega)
        have hB3 := below_set8 (HB.out.trans (kw2.mono hz)) hz 1 2 3 4 5 6 7 8 (.int .i64 k1) (.string (mkS t1)) (.int .u64 (wd x1 0)) (.int .u64 (wd x1 1)) (.int .u64 (wd x1 2)) (.int .u64 (wd x1 3)) (.slice sa9 l1.length sc9) (.int .i64 p1)
        have HNE := Lib.hid (fun (b : Nat) (hb : b ≠ wr.heap.size) => heap_set8_ne (w := w2) (b := wr.heap.size) (c := b) hb 1 2 3 4 5 6 7 8 (.int .i64 k1) (.string (mkS t1)) (.int .u64 (wd x1 0)) (.int .u64 (wd x1 1)) (.int .u64 (wd x1 2)) (.int .u64 (wd x1 3)) (.slice sa9 l1.length sc9) (.int .i64 p1))
        have HO3 := Lib.hid hO3
        have HB3 := Lib.hid hB3
        have HV3 := Lib.hid hv3
        have HKW := Lib.hid kw2
        have HDS := Lib.hid hds
        clear hds hds2 hl9 hb2 kw2 hrb hset hv3 hO3 hB3
        dsimp only [trC]
        repeat (first | (at_builtin; refine wpList_append_lies _ rfl _ _ 22 rfl (w1.heap.size + 1) 42 i0 _ 10 112 Tryz.underlying22 iH iz is ib rfl (by decide) _ _ _ rfl (HO3.out.alloc _) ⟨w2.heap.size, 0, none⟩ 1 1 [.string (mkS y.name), .int .i64 k1, .string (mkS t1), .int .u64 (wd x1 0), .int .u64 (wd x1 1), .int .u64 (wd x1 2), .int .u64 (wd x1 3), .slice sa9 l1.length sc9, .int .i64 p1, .int .i64 y.pos] rfl rfl ?c1 ?c2 (by decide) ?c3 ?c4 ?c5 (w2.heap.size + 1) ?c7 ?c6) | go_values | go_skip | go_guarded | go_step | go_upon)
        case c1 =>
          refine World.news_of_block (cs := #[.string (mkS y.name), .int .i64 k1, .string (mkS t1), .int .u64 (wd x1 0), .int .u64 (wd x1 1), .int .u64 (wd x1 2), .int .u64 (wd x1 3), .slice sa9 l1.length sc9, .int .i64 p1, .int .i64 y.pos]) (t := 42) (fr := (0, 0)) ?_
          have h := heap_alloc_new ((((((((w2.setCell ⟨wr.heap.size, 1, none⟩ (.int .i64 k1)).setCell ⟨wr.heap.size, 2, none⟩ (.string (mkS t1))).setCell ⟨wr.heap.size, 3, none⟩ (.int .u64 (wd x1 0))).setCell ⟨wr.heap.size, 4, none⟩ (.int .u64 (wd x1 1))).setCell ⟨wr.heap.size, 5, none⟩ (.int .u64 (wd x1 2))).setCell ⟨wr.heap.size, 6, none⟩ (.int .u64 (wd x1 3))).setCell ⟨wr.heap.size, 7, none⟩ (.slice sa9 l1.length sc9)).setCell ⟨wr.heap.size, 8, none⟩ (.int .i64 p1)) (.cells #[.string (mkS y.name), .int .i64 k1, .string (mkS t1), .int .u64 (wd x1 0), .int .u64 (wd x1 1), .int .u64 (wd x1 2), .int .u64 (wd x1 3), .slice sa9 l1.length sc9, .int .i64 p1, .int .i64 y.pos] 42)
          simpa using h
        case c2 => simp [Value.oneCell']
        case c3 => unfold maxLen; omega
        case c4 => omega
        case c5 => simp; omega
        case c7 => simp
        case c6 =>
          intro g6 cap6 w6 hown6 hgr6 hat6 hlt6
          have hz6 := hgr6.size
          simp at hz6
          have hnv : some w1.heap.size ≠ v.ownBlock := fun e => by have := (HO.out.lt _ e.symm).1; omega
          have hg61 := (hown6.lt g6 rfl).1
          have hv6 : w6.heap[w1.heap.size]? = some (.cells #[v] 24 (0, 0)) := (hgr6.block _ (by simp; omega) hnv).trans ((RowKit.Below.heap_alloc _ _ _ (by simp; omega)).trans HV3.out)
          obtain ⟨x0, qx⟩ := cells1 hv6
          have fzx := (cells_at hv6).2.1
          have HO7 := Lib.hid (show (w6.setCell ⟨w1.heap.size, 0, none⟩ (.slice (some ⟨g6, 0, none⟩) (j + 1) cap6)).ownsRow (w1.heap.size + 1) 42 10 (.slice (some ⟨g6, 0, none⟩) (j + 1) cap6) (j + 1) _ from hown6.kept (gsetk w6 ⟨w1.heap.size, 0, none⟩ _) (by right; intro e; have e2 : g6 = w1.heap.size := Option.some.inj e; omega))
          have HV7 := Lib.hid (heap_setCell_same _ _ 0 _ _ (.slice (some ⟨g6, 0, none⟩) (j + 1) cap6) hv6)
          have HB7 := Lib.hid (show Below w1.heap.size w1 (w6.setCell ⟨w1.heap.size, 0, none⟩ (.slice (some ⟨g6, 0, none⟩) (j + 1) cap6)) from ((HB3.out.alloc HB3.out.size _).grown hgr6 (by simp; omega) (fun k hk => by have := (HO.out.lt k hk).1; omega)).setCell (Nat.le_refl _) _)
          have HE := Lib.hid (show ∀ b, b < w2.heap.size → b ≠ wr.heap.size → b ≠ w1.heap.size → some b ≠ v.ownBlock → (w6.setCell ⟨w1.heap.size, 0, none⟩ (.slice (some ⟨g6, 0, none⟩) (j + 1) cap6)).heap[b]? = w2.heap[b]? from fun b h1 h2 h3 h4 => (heap_setCell_other _ _ _ _ h3).trans ((hgr6.block b (by simp; omega) h4).trans ((RowKit.Below.heap_alloc _ _ _ (by simp; omega)).trans (HNE.out b h2))))
          have HAT := Lib.hid hat6
          clear hown6 hgr6 hat6 hv6 r0 r1 r2 r3 r4 r5 r6 r7 r8 r9 s0 s1 s2 s3 s4 s5 s6 s7 s8 s9 t0
          repeat (first | go_values | go_skip | go_guarded | go_step | go_upon)
          refine ⟨⟨j + 1, _, _, by go_num, by omega, HO7, Lib.hid ?_, HV7, HB7.out⟩, by simp [intOf]; omega⟩
          rw [HT.out]
          refine RrReps.snoc (r := y) (c := trC k1 t1 x1 (.slice sa9 l1.length sc9) p1) (HRr.out.mono (fun b hb => (HE.out b (by omega) (by omega) (by omega) hb.2.2).trans (HKW.out.block b hb.2.1)) (fun b hb => ⟨hb.1, by simp; omega, ?_⟩)) (HDS.out.mono (fun b hb => HE.out b hb.2 (by have := hb.1; simp at this; omega) (by have := hb.1; simp at this; omega) (fun e => by have := (HO.out.lt b e.symm).2; have := hb.1; simp at this; omega)) (fun b hb => ⟨by have := hb.1; simp at this; omega, by simp; have := hb.2; omega, ?_⟩))
          · rcases HAT.out with h | h
            · intro e; exact hb.2.2 (e.trans h.symm)
            · intro e; have e2 : b = g6 := Option.some.inj e; have := hb.2.1; omega
          · rcases HAT.out with h | h
            · intro e; have e2 : b = g6 := Option.some.inj e; have := (HO.out.lt g6 h).2; have := hb.1; simp at this; omega
            · intro e; have e2 : b = g6 := Option.some.inj e; have := hb.2; omega
    · have d1 : decide ((j : Int) < m) = false := by simpa using hlt
      obtain rfl : j = m := by omega
      clear hlt
      obtain ⟨va, vc, rfl⟩ := own_slice HO.out
      have hst := heap_setCell_same _ _ 0 _ _ (.slice va j vc) HS.out.1
      have s0 := (cells_at hst).1 0
      simp at s0
      have HBE := Lib.hid (HW.out.setCell (show w.heap.size ≤ (⟨w.heap.size + 1, 0, none⟩ : Addr).block by simp) (.slice va j vc))
      clear hst
      repeat (first | go_values | go_skip | go_guarded | go_step | go_upon)
      refine bodyPost_ret (v := .tuple #[.agg #[.slice va j vc], .nilIface]) (by simp [results, Tryz.results20, go_sem, s0]; done) rfl ⟨⟨.slice va j vc, us, rfl, HSET.out, ?_⟩, HBE.out⟩
      have h1 := HRr.out
      rw [HM.out, List.take_length] at h1
      have h2 := HO.out
      have hl : (prG g us).length = j := by rw [prG_len, ← HM.out]
      refine rules_own (B := w1.heap.size + 1) (cs := cs) (by rw [hl]; exact h2.kept (gsetk wr ⟨w.heap.size + 1, 0, none⟩ (.slice va j vc)) (by cases ho : (Value.slice va j vc).ownBlock with | none => exact .inl rfl | some k => right; intro e; have e2 : k = w.heap.size + 1 := Option.some.inj e; have := (HO.out.lt k ho).1; omega)) (h1.mono (fun b hb => heap_setCell_other _ _ _ _ (by show b ≠ w.heap.size + 1; omega)) (fun b hb => ⟨by omega, by simp; exact hb.2.1⟩)) (fun b h1 h2 => ⟨by omega, h2⟩)
end Go.Proofs.YtjlcoldnhbkcgaaGreatDoor
