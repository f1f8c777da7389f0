/- slices.Clone of nodes; scope.copied: a tree in other memory. -/
import Derived.Test.YtjlcoldnhbkcgaaGreatDoorG41
import Derived.Test.YtjlcoldnhbkcgaaGreatDoorG33
namespace Go.Proofs.YtjlcoldnhbkcgaaGreatDoor
open Go.RowKit Go.Sort

theorem oset8 {w : World} {B g n cap : Nat} {xs : List Value} (h : w.ownsRow B 40 8 (.slice (some ⟨g, 0, none⟩) n cap) n xs) (j0 j1 j2 j3 j4 j5 j6 j7 : Nat) (u0 u1 u2 u3 u4 u5 u6 u7 : Value) :
    ((((((((w.setCell ⟨g, j0, none⟩ u0).setCell ⟨g, j1, none⟩ u1).setCell ⟨g, j2, none⟩ u2).setCell ⟨g, j3, none⟩ u3).setCell ⟨g, j4, none⟩ u4).setCell ⟨g, j5, none⟩ u5).setCell ⟨g, j6, none⟩ u6).setCell ⟨g, j7, none⟩ u7).ownsRow B 40 8 (.slice (some ⟨g, 0, none⟩) n cap) n ((((((((xs.set j0 u0).set j1 u1).set j2 u2).set j3 u3).set j4 u4).set j5 u5).set j6 u6).set j7 u7) ∧
    w.grownBy ((((((((w.setCell ⟨g, j0, none⟩ u0).setCell ⟨g, j1, none⟩ u1).setCell ⟨g, j2, none⟩ u2).setCell ⟨g, j3, none⟩ u3).setCell ⟨g, j4, none⟩ u4).setCell ⟨g, j5, none⟩ u5).setCell ⟨g, j6, none⟩ u6).setCell ⟨g, j7, none⟩ u7) (some g) := by
  obtain ⟨o0, g0⟩ := h.stored j0 u0
  obtain ⟨o1, g1⟩ := o0.stored j1 u1
  obtain ⟨o2, g2⟩ := o1.stored j2 u2
  obtain ⟨o3, g3⟩ := o2.stored j3 u3
  obtain ⟨o4, g4⟩ := o3.stored j4 u4
  obtain ⟨o5, g5⟩ := o4.stored j5 u5
  obtain ⟨o6, g6⟩ := o5.stored j6 u6
  obtain ⟨o7, g7⟩ := o6.stored j7 u7
  exact ⟨o7, g0.trans (g1.trans (g2.trans (g3.trans (g4.trans (g5.trans (g6.trans g7))))))⟩
theorem info_nd : (Tryz.prog.info? 40).map (fun i => (i.zero, i.size, i.bytes)) = some (some (.agg #[.int .i64 0, .string ⟨#[]⟩, .int .u64 0, .int .u64 0, .int .u64 0, .int .u64 0, .slice none 0 0, .int .i64 0]), 8, 88) := by kernel_rfl
set_option maxRecDepth 100000 in
set_option maxHeartbeats 3200000 in
theorem clone_any {l : List Tr} {v : Value} {P : Nat → Prop} (w : World) (hl : RepL w P l v) (hP : ∀ b, P b → b < w.heap.size) (hs : l.length ≤ 1000000000) : Calls Tryz.prog 55 #[v] w (fun e w' => (∃ u cs, e = .returned u ∧ RepsA w' P l cs ∧ w'.ownsRow w.heap.size 40 8 u l.length cs) ∧ Below w.heap.size w w') := by
  have hm1 := cell_alloc_lt
  obtain ⟨i0, iH, iz, is, ib⟩ := info_parts info_nd
  have hnil := fun (w : World) (a : Option Addr) (n c : Nat) => Lib.run_eql_slice_nil (P := Tryz.prog) w 38 40 a n c 0 0 Tryz.underlying38
  rcases hl.parts with ⟨rfl, rfl⟩ | ⟨rfl, a, cap, rfl⟩ | ⟨g, o, cap, rfl, hg, h0, hcap, hmx, hr⟩
  · go_enter Tryz.func55, Tryz.ntmps55
    repeat (first | go_values | go_skip | go_guarded | go_step | go_upon)
    go_ret
    exact ⟨⟨_, [], rfl, .nil, World.ownsRow_nil _ _ _ _⟩, Below.refl _ _⟩
  · go_enter Tryz.func55, Tryz.ntmps55
    repeat (first | go_values | go_skip | go_guarded | go_step | go_upon)
    go_ret
    exact ⟨⟨_, [], rfl, .nil, World.ownsRow_made w #[] 0 (Nat.le_refl _) (Nat.zero_le _) rfl⟩, bal (Below.refl _ w) _⟩
  · obtain ⟨cs, h1, h2⟩ := hr.cells
    have HR := Lib.hid h1
    have HC := Lib.hid h2
    have HP := Lib.hid hP
    have hl8 := h1.length
    have hgl := hP g hg
    obtain ⟨n, hn⟩ : ∃ n, n = l.length := ⟨_, rfl⟩
    rw [← hn] at hcap hmx hs h0 hl8 ⊢
    have HN := Lib.hid hn
    clear hl hr h1 h2 hP hg hn
    go_enter Tryz.func55, Tryz.ntmps55
    repeat (first | (at_builtin; refine wpList_append_own _ rfl _ _ 38 rfl w.heap.size 40 i0 _ 8 88 Tryz.underlying38 iH iz is ib rfl (by decide) _ _ _ rfl (World.ownsRow_made w #[] 0 (Nat.le_refl _) (Nat.zero_le _) rfl) ⟨g, o, none⟩ n cap cs rfl hl8 ?c1 ?c2 ?c3 ?c4 ?c5 ?c6) | go_values | go_skip | go_guarded | go_step | go_upon)
    case c1 =>
      intro j u hj
      have hjl := (List.getElem?_eq_some_iff.1 hj).1
      have e : (⟨g, o, none⟩ : Addr).add j = ⟨g, o + j, none⟩ := by unfold Addr.add; split <;> simp_all
      rw [e, cell_alloc_lt _ _ _ _ hgl, HC.out j hjl, hj]
    case c2 =>
      intro u hu
      exact HR.out.one u hu
    case c3 => unfold maxLen; omega
    case c4 => omega
    case c5 => simp
    case c6 =>
      intro v3 w4 hown3 hgr3 _
      have hb4 : Below w.heap.size w w4 := below_grown (bal (Below.refl _ w) _) hgr3 (fun k hk => by have hk' : w.heap.size = k := Option.some.inj hk; omega)
      have HO := Lib.hid hown3
      clear hown3 hgr3
      repeat (first | go_values | go_skip | go_guarded | go_step | go_upon)
      go_ret
      exact ⟨⟨v3, cs, rfl, HR.out.mono (fun b hb => hb4.block b (HP.out b hb)) (fun _ h => h), by have := HO.out; rwa [Nat.zero_add, List.nil_append] at this⟩, hb4⟩
theorem own_slice {w : World} {B : Nat} {e : TypeId} {z : Nat} {v : Value} {n : Nat} {xs : List Value} (h : w.ownsRow B e z v n xs) : ∃ a cap, v = .slice a n cap := by
  rcases h.2 with ⟨rfl, rfl⟩ | ⟨_, _, _, rfl, _⟩
  · exact ⟨_, _, rfl⟩
  · exact ⟨_, _, rfl⟩
theorem own_split {w : World} {B g n cap j : Nat} {a c b : List Value} (h : w.ownsRow B 40 8 (.slice (some ⟨g, 0, none⟩) n cap) n (a ++ (c ++ b))) (ha : a.length = j * 8) (hj : j < n) (i : Nat) (hi : i < c.length) (h8 : i < 8) : w.cell? ⟨g, j * 8 + i, none⟩ = c[i]? := by
  rw [h.cellAt (j * 8 + i) (by omega), List.getElem?_append_right (by omega), ha, Nat.add_sub_cancel_left, List.getElem?_append_left hi]
theorem kept8 {w w' : World} {B g k n cap : Nat} {xs : List Value} (h : w.ownsRow B 40 8 (.slice (some ⟨g, 0, none⟩) n cap) n xs) (hg : w.grownBy w' (some k)) (hne : g ≠ k) : w'.ownsRow B 40 8 (.slice (some ⟨g, 0, none⟩) n cap) n xs :=
  h.kept hg (by right; intro e; exact hne (Option.some.inj e))
/-- A tree in other memory. -/
def CopC (n : Tr) : Prop := ∀ (w : World) (P : Nat → Prop) (cs : List Value), RepA w P n cs → (∀ b, P b → b < w.heap.size) → Calls Tryz.prog 39 #[.agg cs.toArray] w (fun e w' => (∃ cs', e = .returned (.agg cs'.toArray) ∧ RepA w' (fun b => w.heap.size ≤ b ∧ b < w'.heap.size) n cs') ∧ Below w.heap.size w w')
set_option maxRecDepth 100000 in
set_option maxHeartbeats 6400000 in
theorem copied_node {k : Int} {t : List UInt8} {c : BitVec 256} {l : List Tr} {p : Int} {v : Value} {P : Nat → Prop} (w : World) (hl : RepL w P l v) (hP : ∀ b, P b → b < w.heap.size) (hs : l.length ≤ 1000000000) (ih : ∀ x ∈ l, CopC x) : Calls Tryz.prog 39 #[.agg (trC k t c v p).toArray] w (fun e w' => (∃ cs', e = .returned (.agg cs'.toArray) ∧ RepA w' (fun b => w.heap.size ≤ b ∧ b < w'.heap.size) (.mk k t c l p) cs') ∧ Below w.heap.size w w') := by
  have HC := Lib.hid (fun (W : World) (h : Below w.heap.size w W) => clone_any W (hl.mono (fun b hb => h.block b (hP b hb)) (fun _ h => h)) (fun b hb => Nat.lt_of_lt_of_le (hP b hb) h.size) hs)
  obtain ⟨a, cap, rfl, hcap, _⟩ := hl.slice
  have HI := Lib.hid ih
  have HP := Lib.hid hP
  have HS0 := Lib.hid (((bks_nil w).push (trC k t c (.slice a l.length cap) p).toArray 40 rfl).push #[.int .i64 0, .string ⟨#[]⟩, .int .u64 0, .int .u64 0, .int .u64 0, .int .u64 0, .slice none 0 0, .int .i64 0] 40 (b := w.heap.size + 1) (by simp))
  have hm1 := cell_alloc_lt
  obtain ⟨n, hn⟩ : ∃ n, n = l.length := ⟨_, rfl⟩
  rw [← hn] at HC HS0 hs ⊢
  have HN := Lib.hid hn
  clear hl hP ih hn hcap
  dsimp only [trC] at HS0 ⊢
  go_enter Tryz.func39, Tryz.ntmps39
  repeat (first | go_values | go_skip | go_guarded | go_step | go_upon)
  refine (HC.out _ (bal (bal (Below.refl _ w) _) _)).mono ?_
  rintro e w1 ⟨⟨u, cs, rfl, hreps, hown⟩, hb1⟩
  obtain ⟨ua, uc, rfl⟩ := own_slice hown
  have HS1 := Lib.hid (HS0.out.below hb1)
  have hz1 := hb1.size
  simp only [World.size_alloc] at hz1
  obtain ⟨e0, e1, e2, e3, e4, e5, e6, e7, qn⟩ := cells8 HS1.out.2.1
  have fz := (cells_at HS1.out.2.1).2.1
  have HO := Lib.hid hown
  have HRp := Lib.hid hreps
  have HB1 := Lib.hid (show Below w.heap.size w w1 from (bal (bal (Below.refl _ w) _) _).trans (hb1.mono (by simp; omega)))
  clear hreps hown hb1
  dsimp only
  repeat (first | go_values | go_skip | go_guarded | go_step | go_upon)
  have hgs : w1.grownBy (w1.setCell ⟨w.heap.size, 6, none⟩ (.slice ua n uc)) (some w.heap.size) := gsetk w1 ⟨w.heap.size, 6, none⟩ _
  have HS2 := Lib.hid (show Bks [(w.heap.size + 1, #[.int .i64 0, .string ⟨#[]⟩, .int .u64 0, .int .u64 0, .int .u64 0, .int .u64 0, .slice none 0 0, .int .i64 0], 40), (w.heap.size, #[.int .i64 k, .string (mkS t), .int .u64 (wd c 0), .int .u64 (wd c 1), .int .u64 (wd c 2), .int .u64 (wd c 3), .slice ua n uc, .int .i64 p], 40)] (w1.setCell ⟨w.heap.size, 6, none⟩ (.slice ua n uc)) from ⟨(heap_setCell_other _ _ _ _ (by simp)).trans HS1.out.1, heap_setCell_same _ _ 6 _ _ _ HS1.out.2.1, trivial⟩)
  have hPs : ∀ b, P b → (w1.setCell ⟨w.heap.size, 6, none⟩ (.slice ua n uc)).heap[b]? = w1.heap[b]? := fun b hb => heap_setCell_other _ _ _ _ (by have := HP.out b hb; simp; omega)
  have HO2 := Lib.hid (show (w1.setCell ⟨w.heap.size, 6, none⟩ (.slice ua n uc)).ownsRow (w.heap.size + 1 + 1) 40 8 (.slice ua n uc) n cs from by
    have h := HO.out
    simp only [World.size_alloc] at h
    exact h.kept hgs (by
      rcases h.2 with ⟨e, _⟩ | ⟨g', cap', cur, e, hb', _⟩
      · left; rw [e]; rfl
      · right; rw [e]; intro e2; have e3 : g' = w.heap.size := Option.some.inj e2; omega))
  have HR2 := Lib.hid (HRp.out.mono (w' := w1.setCell ⟨w.heap.size, 6, none⟩ (.slice ua n uc)) hPs (fun _ h => h))
  have HB2 := Lib.hid (show Below w.heap.size w (w1.setCell ⟨w.heap.size, 6, none⟩ (.slice ua n uc)) from HB1.out.setCell (by simp) _)
  have hsz : (w1.setCell ⟨w.heap.size, 6, none⟩ (.slice ua n uc)).heap.size = w1.heap.size := by simp
  clear e0 e1 e2 e3 e4 e5 e6 e7 qn fz hgs hPs
  go_loopw [12] (fun tt wr => ∃ (j : Nat) (cs1 cs2 : List Value), tt = .int .i64 (j : Int) ∧ j ≤ n ∧ Hid (wr.ownsRow (w.heap.size + 1 + 1) 40 8 (.slice ua n uc) n (cs1 ++ cs2)) ∧ Hid (RepsA wr (fun b => w1.heap.size ≤ b ∧ b < wr.heap.size) (l.take j) cs1) ∧ Hid (RepsA wr P (l.drop j) cs2) ∧ Hid (Bks [(w.heap.size + 1, #[.int .i64 0, .string ⟨#[]⟩, .int .u64 0, .int .u64 0, .int .u64 0, .int .u64 0, .slice none 0 0, .int .i64 0], 40), (w.heap.size, #[.int .i64 k, .string (mkS t), .int .u64 (wd c 0), .int .u64 (wd c 1), .int .u64 (wd c 2), .int .u64 (wd c 3), .slice ua n uc, .int .i64 p], 40)] wr) ∧ w1.heap.size ≤ wr.heap.size ∧ Below w.heap.size w wr) (fun tt _ => n - (intOf tt).toNat)
  case atStart => exact ⟨0, [], cs, rfl, Nat.zero_le _, HO2, Lib.hid .nil, HR2, HS2, by omega, HB2.out⟩
  case round =>
    obtain ⟨j, cs1, cs2, rfl, hj, HO3, HF, HR3, HS3, hz3, hb3⟩ := hrel
    have HB3 := Lib.hid hb3
    have hzw := hb3.size
    clear hb3
    obtain ⟨e0, e1, e2, e3, e4, e5, e6, e7, qn⟩ := cells8 HS3.out.2.1
    obtain ⟨z0, z1, z2, z3, z4, z5, z6, z7, qz⟩ := cells8 HS3.out.1
    have fzz := (cells_at HS3.out.1).2.1
    by_cases hlt : j < n
    · have hlt2 : j < l.length := by rw [← HN.out]; exact hlt
      obtain ⟨y, hy⟩ : ∃ y, l[j]? = some y := ⟨l[j], List.getElem?_eq_getElem hlt2⟩
      have hmem := List.mem_of_getElem? hy
      have hdrop : l.drop j = y :: l.drop (j + 1) := by
        rw [List.drop_eq_getElem_cons hlt2]
        rw [List.getElem?_eq_getElem hlt2] at hy
        injection hy with hy
        rw [hy]
      have htake : l.take (j + 1) = l.take j ++ [y] := by rw [List.take_add_one, hy]; rfl
      have hr3 := HR3.out
      rw [hdrop] at hr3
      cases hr3 with
      | @cons _ _ cc cs3 hy1 hrest =>
        obtain ⟨k1, t1, x1, v1, l1, p1, rfl, rfl, hl1⟩ := hy1.form
        obtain ⟨sa, sc, rfl, _⟩ := hl1.slice
        have hl8 : cs1.length = j * 8 := by rw [HF.out.length, List.length_take]; omega
        obtain ⟨gu, uc2, hu, hgu, hgu2⟩ := HO3.out.form (by omega)
        obtain ⟨rfl, rfl⟩ : ua = some ⟨gu, 0, none⟩ ∧ uc = uc2 := by injection hu with h1 _ h2; exact ⟨h1, h2⟩
        have fz3 := HO3.out.frozenAt
        have u0 : wr.cell? ⟨gu, j * 8, none⟩ = some (.int .i64 k1) := own_split HO3.out hl8 hlt 0 (by simp [trC]) (by decide)
        have u1 : wr.cell? ⟨gu, j * 8 + 1, none⟩ = some (.string (mkS t1)) := own_split HO3.out hl8 hlt 1 (by simp [trC]) (by decide)
        have u2 : wr.cell? ⟨gu, j * 8 + 2, none⟩ = some (.int .u64 (wd x1 0)) := own_split HO3.out hl8 hlt 2 (by simp [trC]) (by decide)
        have u3 : wr.cell? ⟨gu, j * 8 + 3, none⟩ = some (.int .u64 (wd x1 1)) := own_split HO3.out hl8 hlt 3 (by simp [trC]) (by decide)
        have u4 : wr.cell? ⟨gu, j * 8 + 4, none⟩ = some (.int .u64 (wd x1 2)) := own_split HO3.out hl8 hlt 4 (by simp [trC]) (by decide)
        have u5 : wr.cell? ⟨gu, j * 8 + 5, none⟩ = some (.int .u64 (wd x1 3)) := own_split HO3.out hl8 hlt 5 (by simp [trC]) (by decide)
        have u6 : wr.cell? ⟨gu, j * 8 + 6, none⟩ = some (.slice sa l1.length sc) := own_split HO3.out hl8 hlt 6 (by simp [trC]) (by decide)
        have u7 : wr.cell? ⟨gu, j * 8 + 7, none⟩ = some (.int .i64 p1) := own_split HO3.out hl8 hlt 7 (by simp [trC]) (by decide)
        have d1 : decide ((j : Int) < n) = true := by simpa using hlt
        have k5 : IntKind.i64.wrap ((j : Int) + 1) = (j : Int) + 1 := by rw [IntKind.wrap_i64]; omega
        have HX := Lib.hid (fun (W : World) (h : Below wr.heap.size wr W) => HI.out _ hmem W P _ (hy1.mono (w' := W) (fun b hb => h.block b (Nat.lt_of_lt_of_le (HP.out b hb) hzw)) (fun _ h => h)) (fun b hb => Nat.lt_of_lt_of_le (Nat.lt_of_lt_of_le (HP.out b hb) hzw) h.size))
        have HRs := Lib.hid hrest
        have HT := Lib.hid htake
        clear hy hmem hdrop htake hy1 hrest hl1 hu
        dsimp only [trC] at HX
        repeat (first | go_values | go_skip | go_guarded | go_step | go_upon)
        go_region_with (first | (go_at_call 39; refine (HX.out _ (bdr (bal (Below.refl _ wr) _))).mono ?_; rintro e w2 ⟨⟨ds, rfl, hds⟩, hb2⟩; obtain ⟨sa9, sc9, rfl, hl9⟩ := hds.subs; have kb2 := (drew_below _).trans (hb2.mono (by simp)); have kw2 := (bal (Below.refl _ wr) _).trans (kb2.mono (by simp)); have HKW := Lib.hid kw2; have HDS := Lib.hid hds; have HO5 := Lib.hid (owns_below HO3.out kw2); have HS5 := Lib.hid (HS3.out.below kw2); have fz5 := HO5.out.frozenAt; have v0 : w2.cell? ⟨gu, j * 8, none⟩ = some (.int .i64 k1) := own_split HO5.out hl8 hlt 0 (by simp [trC]) (by decide); have v1 : w2.cell? ⟨gu, j * 8 + 1, none⟩ = some (.string (mkS t1)) := own_split HO5.out hl8 hlt 1 (by simp [trC]) (by decide); have v2 : w2.cell? ⟨gu, j * 8 + 2, none⟩ = some (.int .u64 (wd x1 0)) := own_split HO5.out hl8 hlt 2 (by simp [trC]) (by decide); have v3 : w2.cell? ⟨gu, j * 8 + 3, none⟩ = some (.int .u64 (wd x1 1)) := own_split HO5.out hl8 hlt 3 (by simp [trC]) (by decide); have v4 : w2.cell? ⟨gu, j * 8 + 4, none⟩ = some (.int .u64 (wd x1 2)) := own_split HO5.out hl8 hlt 4 (by simp [trC]) (by decide); have v5 : w2.cell? ⟨gu, j * 8 + 5, none⟩ = some (.int .u64 (wd x1 3)) := own_split HO5.out hl8 hlt 5 (by simp [trC]) (by decide); have v6 : w2.cell? ⟨gu, j * 8 + 6, none⟩ = some (.slice sa l1.length sc) := own_split HO5.out hl8 hlt 6 (by simp [trC]) (by decide); have v7 : w2.cell? ⟨gu, j * 8 + 7, none⟩ = some (.int .i64 p1) := own_split HO5.out hl8 hlt 7 (by simp [trC]) (by decide); obtain ⟨y0, y1, y2, y3, y4, y5, y6, y7, qy⟩ := cells8 HS5.out.2.1; have hss := (kb2.block wr.heap.size (by simp)).trans (heap_alloc_new wr _); obtain ⟨r0, r1, r2, r3, r4, r5, r6, r7, qr⟩ := cells8 hss; clear hb2 hds hl9 kb2 kw2 hss; try dsimp only [trC]))
        all_goals
          obtain ⟨o9, _⟩ := oset8 HO5.out (j * 8) (j * 8 + 1) (j * 8 + 2) (j * 8 + 3) (j * 8 + 4) (j * 8 + 5) (j * 8 + 6) (j * 8 + 7) (.int .i64 k1) (.string (mkS t1)) (.int .u64 (wd x1 0)) (.int .u64 (wd x1 1)) (.int .u64 (wd x1 2)) (.int .u64 (wd x1 3)) (.slice sa9 l1.length sc9) (.int .i64 p1)
          rw [show trC k1 t1 x1 (.slice sa l1.length sc) p1 = [.int .i64 k1, .string (mkS t1), .int .u64 (wd x1 0), .int .u64 (wd x1 1), .int .u64 (wd x1 2), .int .u64 (wd x1 3), .slice sa l1.length sc, .int .i64 p1] from rfl, set8_mid _ _ _ _ _ _ _ _ _ _ _ _ _ _ _ _ _ _ hl8, ← List.append_assoc] at o9
          have HO9 := Lib.hid o9
          have hne : ∀ b, b ≠ gu → _ := fun b hb => heap_set8_ne (w := w2) (b := gu) (c := b) hb (j * 8) (j * 8 + 1) (j * 8 + 2) (j * 8 + 3) (j * 8 + 4) (j * 8 + 5) (j * 8 + 6) (j * 8 + 7) (.int .i64 k1) (.string (mkS t1)) (.int .u64 (wd x1 0)) (.int .u64 (wd x1 1)) (.int .u64 (wd x1 2)) (.int .u64 (wd x1 3)) (.slice sa9 l1.length sc9) (.int .i64 p1)
          have HNE := Lib.hid hne
          have hbe := below_set8 (HB3.out.trans (HKW.out.mono hzw)) (show w.heap.size ≤ gu by omega) (j * 8) (j * 8 + 1) (j * 8 + 2) (j * 8 + 3) (j * 8 + 4) (j * 8 + 5) (j * 8 + 6) (j * 8 + 7) (.int .i64 k1) (.string (mkS t1)) (.int .u64 (wd x1 0)) (.int .u64 (wd x1 1)) (.int .u64 (wd x1 2)) (.int .u64 (wd x1 3)) (.slice sa9 l1.length sc9) (.int .i64 p1)
          have HBE := Lib.hid hbe
          have hg1 := (HO.out.lt gu rfl).2
          have hz9 := HKW.out.size
          clear o9 hne hbe u0 u1 u2 u3 u4 u5 u6 u7 v0 v1 v2 v3 v4 v5 v6 v7 y0 y1 y2 y3 y4 y5 y6 y7 r0 r1 r2 r3 r4 r5 r6 r7 z0 z1 z2 z3 z4 z5 z6 z7 e0 e1 e2 e3 e4 e5 e6 e7 fz3 fz5 fzz
          repeat (first | go_values | go_skip | go_guarded | go_step | go_upon)
          refine ⟨⟨j + 1, _, cs3, by go_num, by omega, HO9, Lib.hid ?_, Lib.hid ?_, Lib.hid ?_, by simp; omega, HBE.out⟩, by simp [intOf]; omega⟩
          · rw [HT.out]
            exact (HF.out.mono (fun b hb => (HNE.out b (by omega)).trans (HKW.out.block b hb.2)) (fun b hb => ⟨hb.1, by simp; omega⟩)).snoc (HDS.out.mono (fun b hb => HNE.out b (by have := hb.1; simp at this; omega)) (fun b hb => ⟨by have := hb.1; simp at this; omega, by simp; exact hb.2⟩))
          · exact HRs.out.mono (fun b hb => (HNE.out b (by have := HP.out b hb; omega)).trans (HKW.out.block b (Nat.lt_of_lt_of_le (HP.out b hb) hzw))) (fun _ h => h)
          · exact ⟨(HNE.out _ (by omega)).trans HS5.out.1, (HNE.out _ (by omega)).trans HS5.out.2.1, trivial⟩
    · have d1 : decide ((j : Int) < n) = false := by simpa using hlt
      obtain rfl : j = n := by omega
      clear hlt
      have HF2 := Lib.hid (show RepsA wr (fun b => w1.heap.size ≤ b ∧ b < wr.heap.size) l cs1 by have := HF.out; rwa [HN.out, List.take_length] at this)
      have HO4 := Lib.hid (show wr.ownsRow (w.heap.size + 1 + 1) 40 8 (.slice ua j uc) j cs1 by
        have h2 := HR3.out
        rw [HN.out, List.drop_length] at h2
        cases h2
        have := HO3.out
        rwa [List.append_nil] at this)
      have hset := heap_set8 HS3.out.1 (.int .i64 k) (.string (mkS t)) (.int .u64 (wd c 0)) (.int .u64 (wd c 1)) (.int .u64 (wd c 2)) (.int .u64 (wd c 3)) (.slice ua j uc) (.int .i64 p)
      obtain ⟨s0, s1, s2, s3, s4, s5, s6, s7, qs⟩ := cells8 hset
      have hbe := below_set8 HB3.out (show w.heap.size ≤ w.heap.size + 1 by omega) 0 1 2 3 4 5 6 7 (.int .i64 k) (.string (mkS t)) (.int .u64 (wd c 0)) (.int .u64 (wd c 1)) (.int .u64 (wd c 2)) (.int .u64 (wd c 3)) (.slice ua j uc) (.int .i64 p)
      have HBE := Lib.hid hbe
      clear hbe hset
      repeat (first | go_values | go_skip | go_guarded | go_step | go_upon)
      refine bodyPost_ret (v := .agg #[.int .i64 k, .string (mkS t), .int .u64 (wd c 0), .int .u64 (wd c 1), .int .u64 (wd c 2), .int .u64 (wd c 3), .slice ua j uc, .int .i64 p]) (by simp [results, Tryz.results39, go_sem, s0, s1, s2, s3, s4, s5, s6, s7]; done) rfl ⟨⟨trC k t c (.slice ua j uc) p, rfl, .mk ?_⟩, HBE.out⟩
      have hlj : l.length = j := HN.out.symm
      refine trees_own (B := w.heap.size + 1 + 1) (cs := cs1) ?_ (HF2.out.mono (fun b hb => heap_set8_ne (by omega) 0 1 2 3 4 5 6 7 _ _ _ _ _ _ _ _) (fun b hb => ⟨by omega, by simp; exact hb.2⟩)) (fun b h1 h2 => ⟨by omega, h2⟩)
      rw [hlj]
      refine HO4.out.kept (gset8 wr (w.heap.size + 1) 0 1 2 3 4 5 6 7 _ _ _ _ _ _ _ _) ?_
      rcases HO4.out.2 with ⟨e, _⟩ | ⟨g', cap', cur, e, hb', _⟩
      · left; rw [e]; rfl
      · right; rw [e]; intro e2; have e3 : g' = w.heap.size + 1 := Option.some.inj e2; omega
theorem copied_any (n : Tr) (hb : n.bulk ≤ 1000000000) : CopC n := by
  have key : ∀ (k : Nat) (n : Tr), SizeOf.sizeOf n < k → n.bulk ≤ 1000000000 → CopC n := by
    intro k
    induction k with
    | zero => intro n hn; omega
    | succ k ih =>
      intro n hn hb w P cs hr hP
      cases hr with
      | @mk kk t x l p v hl =>
        rw [Tr.bulk] at hb
        refine copied_node w hl hP (by have := bulks_len l; omega) (fun y hy => ih y ?_ (by have := bulk_mem hy; omega))
        have e1 : SizeOf.sizeOf y < SizeOf.sizeOf l := List.sizeOf_lt_of_mem hy
        rw [Tr.mk.sizeOf_spec] at hn
        omega
  exact key _ n (Nat.lt_succ_self _) hb
end Go.Proofs.YtjlcoldnhbkcgaaGreatDoor
