/- nullable.Expr of an expression that may be asked for. | nullable.Rules. | nullable: what Expr and Rules come to, told together; the small case: plain. | The nullable laws' small case: the walk; Expr, as the laws call it. | The walk of NullableLooks. -/
import Derived.Test.YtjlcoldnhbkcgaaGreatDoorG43
import Derived.Test.YtjlcoldnhbkcgaaGreatDoorG41
import Derived.Test.YtjlcoldnhbkcgaaGreatDoorG4
import Derived.Test.YtjlcoldnhbkcgaaGreatDoorG34
import Derived.Test.YtjlcoldnhbkcgaaGreatDoorG36
namespace Go.Proofs.YtjlcoldnhbkcgaaGreatDoor
open Go.RowKit Go.Sort

theorem txR_ne {sep : List UInt8} (h : sep ≠ []) (r : Nat) (x : Tr) (l : List Tr) : txR sep r (x :: l) ≠ [] := by
  intro e
  rw [txR] at e
  exact h (List.append_eq_nil_iff.1 e).1
theorem txT_ne {n : Tr} (h : OkT n) : txT n ≠ [] := by
  cases h with
  | empty => simp [txT, pcT, txs, Pc.tx]
  | lit _ => simp [txT, pcT, txs, Pc.tx, quoted]
  | set => simp [txT, pcT, txs, Pc.tx, txt]
  | any => simp [txT, pcT, txs, Pc.tx]
  | @ref t p ht =>
    have := (isName_spec ht).1
    intro e
    have e2 : t = [] := by simpa [txT, pcT, txs, Pc.tx] using e
    subst e2
    simp at this
  | @seq l p hl _ =>
    match l, hl with
    | x :: y :: l, _ =>
      intro e
      rw [show txT (.mk 6 [] 0 (x :: y :: l) p) = txs (pcR [.sp] 2 true (x :: y :: l)) by rw [txT, pcT]; rfl, txs_first] at e
      exact txR_ne (by simp [txs, Pc.tx]) _ _ _ (List.append_eq_nil_iff.1 e).2
  | @alt l p hl _ =>
    match l, hl with
    | x :: y :: l, _ =>
      intro e
      rw [show txT (.mk 7 [] 0 (x :: y :: l) p) = txs (pcR [.sp, .sg 47, .sp] 1 true (x :: y :: l)) by rw [txT, pcT]; rfl, txs_first] at e
      exact txR_ne (by simp [txs, Pc.tx]) _ _ _ (List.append_eq_nil_iff.1 e).2
  | @post k p x hk _ =>
    intro e
    rw [show txT (.mk k [] 0 [x] p) = txs (pcR [] 4 true [x] ++ [.sg (postB k)]) by rcases hk with rfl | rfl | rfl <;> (rw [txT, pcT]; rfl), txs_app] at e
    have := (List.append_eq_nil_iff.1 e).2
    simp [txs, Pc.tx] at this
  | @pre k p x hk _ =>
    intro e
    rw [show txT (.mk k [] 0 [x] p) = txs (.sg (preB k) :: pcR [] 3 true [x]) by rcases hk with rfl | rfl <;> (rw [txT, pcT]; rfl)] at e
    simp [txs, Pc.tx] at e
set_option maxRecDepth 100000 in
set_option maxHeartbeats 6400000 in
theorem xpr_ok {g : List Rr} {v : Value} {n : Tr} {cs : List Value} {P : Nat → Prop} (w : World) (hg : Laid w) (hr : RepGr w P g v) (hn : RepA w P n cs) (hP : ∀ b, P b → b < w.heap.size) (hb : Rr.bulks g ≤ 1000000000) (hbn : n.bulk ≤ 999999999) (hc : CkOk g) (hx : ExOk g n) : Calls Tryz.prog 13 #[.agg #[v], .agg cs.toArray] w (fun e w' => ∃ T, Least g T ∧ e = .returned (.tuple #[.agg (otC (exT T n)).toArray, .nilIface]) ∧ Below w.heap.size w w') := by
  obtain ⟨a, cap, rfl, _⟩ := hr.slice
  have HKN := Lib.hid (fun (h : OkT n) (w' : World) (hw : Below w.heap.size w w') => kn_any h (by omega) w' P cs (hr.on hP hw) (hn.on hP hw) (fun b hb => Nat.lt_of_lt_of_le (hP b hb) hw.size))
  obtain ⟨hall, hn0, hn64⟩ := okG_all hc.okg
  have HRU := Lib.hid (fun (w' : World) (h : Below w.heap.size w w') => nrules_any w' (hr.on hP h) (fun b hb => Nat.lt_of_lt_of_le (hP b hb) h.size) hc.2.1 hall hb (by omega))
  have HEX := Lib.hid (fun (m c : Nat) (T : List UInt8 → Ot) (w' : World) (h : Below w.heap.size w w') (hT : Tab w' m c T) => nexpr_any (m := m) (T := T) hx.1 (by omega) w' P cs c hT (hn.on hP h) (fun b hb => Nat.lt_of_lt_of_le (hP b hb) h.size))
  have HX := Lib.hid (fun (w' : World) (h : Below w.heap.size w w') => check_ok w' (hg.below h hg.pos) (hr.on hP h) (fun b hb => Nat.lt_of_lt_of_le (hP b hb) h.size) hb hc)
  have HE := Lib.hid (fun (w' : World) (h : Below w.heap.size w w') => pexpr_any w' (hg.below h hg.pos) (hn.on hP h) (fun b hb => Nat.lt_of_lt_of_le (hP b hb) h.size) hbn)
  obtain ⟨k, t, x, u, l, p, hnn, rfl, hl⟩ := hn.form
  obtain ⟨sa, scap, rfl, _⟩ := hl.slice
  have hm1 := cell_alloc_lt
  have HS := Lib.hid (xs_start (.slice a g.length cap) (trC k t x (.slice sa l.length scap) p) w rfl)
  have HXO := Lib.hid hx
  clear hg hr hP hb hc hn hl hx hall hn0 hn64 hnn
  dsimp only [trC] at HS HE HKN HEX ⊢
  go_enter Tryz.func13, Tryz.ntmps13
  repeat (first | go_values | go_skip | go_guarded | go_step | go_upon)
  refine (HX.out _ HS.out.be).mono ?_
  rintro e w2 ⟨rfl, hb2⟩
  have HS2 := Lib.hid (HS.out.below hb2)
  have n2 := (cells_at HS2.out.nd).1
  have n3 := (cells_at HS2.out.nd).2.2
  have e0 := n2 0
  have e1 := n2 1
  have e2 := n2 2
  have e3 := n2 3
  have e4 := n2 4
  have e5 := n2 5
  have e6 := n2 6
  have e7 := n2 7
  simp at e0 e1 e2 e3 e4 e5 e6 e7
  have g0 := (cells_at HS2.out.gr).1 0
  have g2 := (cells_at HS2.out.gr).2.2
  clear n2
  dsimp only
  repeat (first | go_values | go_skip | go_guarded | go_step | go_upon)
  refine (HE.out _ HS2.out.be).mono ?_
  rintro e w3 ⟨⟨r, hr, rfl⟩, hb3⟩
  have HS3 := Lib.hid (HS2.out.below hb3)
  obtain ⟨o1, o2, o3, o4, o5⟩ := HS3.out.ou.cells
  obtain ⟨s1, s2, s3, _, _⟩ := (HS3.out.ou.set false false false).cells
  obtain ⟨hc3, hf3⟩ := bcell hb3
  have hE := expr_nil hr
  have hne : exprOf r = txT n := txT_some hr HXO.out.1 HXO.out.2.1 HXO.out.2.2.1
  dsimp only
  cases hx : exprOf r with
  | nil =>
    rw [hne] at hx
    exact absurd hx (txT_ne HXO.out.1)
  | cons b0 l0 =>
    have HK := Lib.hid (HKN.out HXO.out.1)
    rw [HXO.out.2.2.2] at HK
    clear hx hr hne
    repeat (first | go_values | go_skip | go_guarded | go_step | go_upon)
    refine (HK.out _ HS3.out.be).mono ?_
    rintro e w4 ⟨rfl, hb4⟩
    have HS4 := Lib.hid (HS3.out.below hb4)
    have n2 := (cells_at HS4.out.nd).1
    have n3 := (cells_at HS4.out.nd).2.2
    have e0 := n2 0
    have e1 := n2 1
    have e2 := n2 2
    have e3 := n2 3
    have e4 := n2 4
    have e5 := n2 5
    have e6 := n2 6
    have e7 := n2 7
    simp at e0 e1 e2 e3 e4 e5 e6 e7
    have g0 := (cells_at HS4.out.gr).1 0
    have g2 := (cells_at HS4.out.gr).2.2
    clear n2 hb2 hb3 hb4 hc3 hf3
    dsimp only
    repeat (first | go_values | go_skip | go_guarded | go_step | go_upon)
    go_region_with (first | (go_at_call 23; refine (HRU.out _ HS4.out.be.drew).mono ?_; rintro e w5 ⟨m, T, z, rfl, hm, hT, hL, hb5⟩; have HT5 := Lib.hid hT; have HS5 := Lib.hid (HS4.out.below ((drew_below _).trans (hb5.mono (by simp)))); have n5 := (cells_at HS5.out.nd).1; have e50 := n5 0; have e51 := n5 1; have e52 := n5 2; have e53 := n5 3; have e54 := n5 4; have e55 := n5 5; have e56 := n5 6; have e57 := n5 7; clear n5 hT; simp at e50 e51 e52 e53 e54 e55 e56 e57; try dsimp only) | (go_at_call 26; refine (HEX.out m z T _ HS5.out.be HT5.out).mono ?_; rintro e w6 ⟨rfl, hb6⟩; have HS6 := Lib.hid (HS5.out.below hb6); obtain ⟨o1, o2, o3, o4, o5⟩ := HS6.out.ou.cells; obtain ⟨s1, s2, s3, _, _⟩ := (HS6.out.ou.set (exT T n).z (exT T n).s (exT T n).f).cells; try dsimp only [otC]))
    all_goals
      repeat (first | go_values | go_skip | go_guarded | go_step | go_upon)
      refine bodyPost_ret (v := .tuple #[.agg #[.bool (exT T n).z, .bool (exT T n).s, .bool (exT T n).f], .nilIface]) (by simp [results, Tryz.results13, go_sem, s1, s2, s3]; done) rfl ⟨T, hL, rfl, HS6.out.done _ _ _⟩
end Go.Proofs.YtjlcoldnhbkcgaaGreatDoor
namespace Go.Proofs.YtjlcoldnhbkcgaaGreatDoor
open Go.RowKit Go.Sort

theorem info_out : (Tryz.prog.info? 32).map (fun i => (i.zero, i.size, i.bytes)) = some (some (.agg #[.bool false, .bool false, .bool false]), 3, 3) := by kernel_rfl
theorem cell_3_new (w : World) (a b c : Value) (t : TypeId) : ∀ j u, [a, b, c][j]? = some u → (w.alloc (.cells #[a, b, c] t)).cell? (Addr.add ⟨w.heap.size, 0, none⟩ j) = some u := by
  intro j u hj
  match j, hj with
  | 0, hj => simp at hj; subst hj; simp [Addr.add]
  | 1, hj => simp at hj; subst hj; simp [Addr.add]
  | 2, hj => simp at hj; subst hj; simp [Addr.add]
/-- The rules' answers, as they lie in a row. -/
def outs (T : List UInt8 → Ot) (g : List Rr) : List Value := g.flatMap (fun y => otC (T y.name))
theorem outs_snoc (T : List UInt8 → Ot) {g : List Rr} {j : Nat} {y : Rr} (h : g[j]? = some y) : outs T (g.take (j + 1)) = outs T (g.take j) ++ otC (T y.name) := by
  rw [gtake_snoc h]
  simp [outs]
set_option maxRecDepth 100000 in
set_option maxHeartbeats 6400000 in
theorem nRules_no {g : List Rr} {v : Value} {P : Nat → Prop} (w : World) (hg : Laid w) (hr : RepGr w P g v) (hP : ∀ b, P b → b < w.heap.size) (hb : Rr.bulks g ≤ 1000000000) (hc : ¬ CkOk g) : Calls Tryz.prog 12 #[.agg #[v]] w (fun e w' => (∃ v, e = .returned (.tuple #[.slice none 0 0, v]) ∧ ErrV v) ∧ Below w.heap.size w w') := by
  obtain ⟨a, cap, rfl, _⟩ := hr.slice
  have HX := Lib.hid (fun (w' : World) (h : Below w.heap.size w w') => check_no w' (hg.below h hg.pos) (hr.on hP h) (fun b hb => Nat.lt_of_lt_of_le (hP b hb) h.size) hb hc)
  have hm1 := cell_alloc_lt
  clear hg hr hP hb hc
  go_enter Tryz.func12, Tryz.ntmps12
  repeat (first | go_values | go_skip | go_guarded | go_step | go_upon)
  refine (HX.out _ (by repeat (first | exact Below.refl _ _ | assumption | refine bal ?_ _ | refine bdr ?_ | refine bdrn ?_ _ | (refine bset ?_ (by first | exact Nat.le_refl _ | (simp; done) | (simp; omega) | omega) _) | refine bstep ?_ (by assumption)))).mono ?_
  rintro e w2 ⟨⟨v, rfl, hv⟩, hb2⟩
  rcases hv with ⟨c, rfl⟩ | ⟨p, rfl⟩
  · dsimp only
    repeat (first | go_values | go_skip | go_guarded | go_step | go_upon)
    go_ret2
    exact ⟨⟨_, rfl, .inl ⟨_, rfl⟩⟩, (by repeat (first | exact Below.refl _ _ | assumption | refine bal ?_ _ | refine bdr ?_ | refine bdrn ?_ _ | (refine bset ?_ (by first | exact Nat.le_refl _ | (simp; done) | (simp; omega) | omega) _) | refine bstep ?_ (by assumption)))⟩
  · dsimp only
    repeat (first | go_values | go_skip | go_guarded | go_step | go_upon)
    go_ret2
    exact ⟨⟨_, rfl, .inr ⟨_, rfl⟩⟩, (by repeat (first | exact Below.refl _ _ | assumption | refine bal ?_ _ | refine bdr ?_ | refine bdrn ?_ _ | (refine bset ?_ (by first | exact Nat.le_refl _ | (simp; done) | (simp; omega) | omega) _) | refine bstep ?_ (by assumption)))⟩
set_option maxRecDepth 100000 in
set_option maxHeartbeats 6400000 in
theorem nRules_ok {g : List Rr} {v : Value} {P : Nat → Prop} (w : World) (hg : Laid w) (hr : RepGr w P g v) (hP : ∀ b, P b → b < w.heap.size) (hb : Rr.bulks g ≤ 1000000000) (hc : CkOk g) : Calls Tryz.prog 12 #[.agg #[v]] w (fun e w' => ∃ (u : Value) (T : List UInt8 → Ot), e = .returned (.tuple #[u, .nilIface]) ∧ Least g T ∧ w'.ownsRow w.heap.size 32 3 u g.length (outs T g) ∧ Below w.heap.size w w') := by
  obtain ⟨n, hn⟩ : ∃ n, n = g.length := ⟨_, rfl⟩
  obtain ⟨a, cap, rfl, hcap, hmax⟩ := hr.slice
  obtain ⟨hall, hn0, hn64⟩ := okG_all hc.okg
  have HX := Lib.hid (fun (w' : World) (h : Below w.heap.size w w') => check_ok w' (hg.below h hg.pos) (hr.on hP h) (fun b hb => Nat.lt_of_lt_of_le (hP b hb) h.size) hb hc)
  have HY := Lib.hid (fun (w' : World) (h : Below w.heap.size w w') => nrules_any w' (hr.on hP h) (fun b hb => Nat.lt_of_lt_of_le (hP b hb) h.size) hc.2.1 hall hb (by omega))
  have HR := Lib.hid hr
  have HP := Lib.hid hP
  have HA := Lib.hid hall
  rw [← hn] at HR hcap hn64 HX HY ⊢
  have HN := Lib.hid hn
  have hm1 := cell_alloc_lt
  obtain ⟨i0, iH, iz, is, ib⟩ := info_parts info_out
  clear hg hr hP hb hc hmax hn hall hn0
  go_enter Tryz.func12, Tryz.ntmps12
  repeat (first | go_values | go_skip | go_guarded | go_step | go_upon)
  refine (HX.out _ (by repeat (first | exact Below.refl _ _ | assumption | refine bal ?_ _ | refine bdr ?_ | refine bdrn ?_ _ | (refine bset ?_ (by first | exact Nat.le_refl _ | (simp; done) | (simp; omega) | omega) _) | refine bstep ?_ (by assumption)))).mono ?_
  rintro e w1 ⟨rfl, hb1⟩
  have hw1 : Below w.heap.size w w1 := (bal (Below.refl _ w) _).trans (hb1.mono (by simp))
  have h1x := (hb1.block w.heap.size (by simp)).trans (heap_alloc_new w _)
  have c1 := (cells_at h1x).1 0
  have q1 := (cells_at h1x).2.2
  dsimp only
  repeat (first | go_values | go_skip | go_guarded | go_step | go_upon)
  refine (HY.out _ hw1).mono ?_
  rintro e w2 ⟨b, T, z, rfl, hbb, hT, hL, hb2⟩
  have hw2 : Below w.heap.size w w2 := hw1.trans (hb2.mono hw1.size)
  have h2x := (hb2.block w.heap.size q1).trans h1x
  have c2 := (cells_at h2x).1 0
  have q2 := (cells_at h2x).2.2
  have HT := Lib.hid hT
  have HL := Lib.hid hL
  have qb := hT.lt
  clear hT hL
  dsimp only
  repeat (first | go_values | go_skip | go_guarded | go_step | go_upon)
  go_loopw [6, 19] (fun v t wr => ∃ j : Nat, t = .int .i64 (j : Int) ∧ j ≤ n ∧ Hid (wr.ownsRow w2.heap.size 32 3 v j (outs T (g.take j))) ∧ Below w2.heap.size w2 wr) (fun _ t _ => n - (intOf t).toNat)
  case atStart => exact ⟨0, rfl, Nat.zero_le _, Lib.hid (World.ownsRow_nil _ _ _ _), Below.refl _ _⟩
  case round =>
    obtain ⟨j, rfl, hj, HO, hb⟩ := hrel
    have HB := Lib.hid hb
    have hz := hb.size
    have HW := Lib.hid (hw2.trans (hb.mono hw2.size))
    have hwz := HW.out.size
    have cr := (hb.cell (p := ⟨w.heap.size, 0, none⟩) q2).trans c2
    clear hb
    by_cases hlt : j < n
    · have hlt2 : j < g.length := by rw [← HN.out]; exact hlt
      obtain ⟨y, hy⟩ : ∃ y, g[j]? = some y := ⟨g[j], List.getElem?_eq_getElem hlt2⟩
      have hmem := List.mem_of_getElem? hy
      rcases HR.out.parts with ⟨e, _⟩ | ⟨e, _⟩ | ⟨gg, o, cap', e, hgg, _, hcp, hmx, hr⟩
      · rw [e] at hlt2; simp at hlt2
      · rw [e] at hlt2; simp at hlt2
      · obtain rfl : a = some ⟨gg, o, none⟩ := by injection e
        obtain ⟨k1, t1, x1, sa, sn, sc, p1, l1, eb, q0, _, a9, a0, a1, a2, a3, a4, a5, a6, a7, a8⟩ := (hr.mono (w' := wr) (P' := P) (fun b' hb' => HW.out.block b' (HP.out b' hb')) (fun _ h => h) hgg).get hy
        have d1 : decide ((j : Int) < n) = true := by simpa using hlt
        have k5 : IntKind.i64.wrap ((j : Int) + 1) = (j : Int) + 1 := by rw [IntKind.wrap_i64]; omega
        have qgg := Nat.lt_of_lt_of_le (HP.out gg hgg) hwz
        have hrun := ((HT.out.below HB.out).alloc (.cells #[.string (mkS y.name), .int .i64 k1, .string (mkS t1), .int .u64 (wd x1 0), .int .u64 (wd x1 1), .int .u64 (wd x1 2), .int .u64 (wd x1 3), .slice sa sn sc, .int .i64 p1, .int .i64 y.pos] 42)).look (Nat.le_trans (isName_len (HA.out y hmem).1) (by decide))
        have HS := Lib.hid (outs_snoc T hy)
        obtain ⟨o1, ho1⟩ : ∃ o1, o1 = T y.name := ⟨_, rfl⟩
        rw [← ho1] at hrun HS
        clear e hr eb q0 hy hmem ho1
        obtain ⟨b1, b2, b3⟩ := o1
        dsimp only [otC] at hrun HS
        repeat (first | (at_builtin; refine wpList_append_own _ rfl _ _ 26 rfl w2.heap.size 32 i0 (.agg #[.bool false, .bool false, .bool false]) 3 3 Tryz.underlying26 iH iz is ib rfl (by decide) _ _ _ rfl ((HO.out.alloc _).alloc _) ⟨wr.heap.size + 1, 0, none⟩ 1 1 [.bool b1, .bool b2, .bool b3] rfl rfl ?c1 ?c2 ?c3 ?c4 ?c5 ?c6) | go_values | go_skip | go_guarded | go_step | go_upon)
        case c1 =>
          have h := cell_3_new (wr.alloc (.cells #[.string (mkS y.name), .int .i64 k1, .string (mkS t1), .int .u64 (wd x1 0), .int .u64 (wd x1 1), .int .u64 (wd x1 2), .int .u64 (wd x1 3), .slice sa sn sc, .int .i64 p1, .int .i64 y.pos] 42)) (.bool b1) (.bool b2) (.bool b3)
          simp only [World.size_alloc] at h
          exact h _
        case c2 => simp [Value.oneCell']
        case c3 => unfold maxLen; omega
        case c4 => omega
        case c5 => simp; omega
        case c6 =>
          intro v3 w3 hown3 hgr3 _
          have HO3 := Lib.hid hown3
          have hb3 : Below w2.heap.size w2 w3 := below_grown (bal (bal HB.out _) _) hgr3 (fun k hk => (HO.out.lt k hk).1)
          clear hown3 hgr3
          repeat (first | go_values | go_skip | go_guarded | go_step | go_upon)
          exact ⟨⟨j + 1, by go_num, by omega, Lib.hid (by rw [HS.out]; exact HO3.out), hb3⟩, by simp [intOf]; omega⟩
    · have d1 : decide ((j : Int) < n) = false := by simpa using hlt
      obtain rfl : j = n := by omega
      clear hlt
      repeat (first | go_values | go_skip | go_guarded | go_step | go_upon)
      go_ret2
      exact ⟨_, T, rfl, HL.out, by have := HO.out; rw [HN.out, List.take_length] at this; rw [HN.out]; exact World.ownsRow.mono this hw2.size, HW.out⟩
end Go.Proofs.YtjlcoldnhbkcgaaGreatDoor
namespace Go.Proofs.YtjlcoldnhbkcgaaGreatDoor
open Go.RowKit Go.Sort

/-- What Expr answers. -/
def XpR (g : List Rr) (n : Tr) (o : Ot) (v : Value) : Prop := (CkOk g ∧ ExOk g n ∧ v = .nilIface ∧ ∃ T, Least g T ∧ o = exT T n) ∨ (¬ (CkOk g ∧ ExOk g n) ∧ o = ot0 ∧ ErrV v)
theorem xpr_any {g : List Rr} {v : Value} {n : Tr} {cs : List Value} {P : Nat → Prop} (w : World) (hg : Laid w) (hr : RepGr w P g v) (hn : RepA w P n cs) (hP : ∀ b, P b → b < w.heap.size) (hb : Rr.bulks g ≤ 1000000000) (hbn : n.bulk ≤ 999999999) : Calls Tryz.prog 13 #[.agg #[v], .agg cs.toArray] w (fun e w' => (∃ o v, e = .returned (.tuple #[.agg (otC o).toArray, v]) ∧ XpR g n o v) ∧ Below w.heap.size w w') := by
  by_cases hc : CkOk g
  · by_cases hx : ExOk g n
    · refine (xpr_ok w hg hr hn hP hb hbn hc hx).mono ?_
      rintro e w' ⟨T, hT, rfl, h⟩
      exact ⟨⟨_, _, rfl, .inl ⟨hc, hx, rfl, T, hT, rfl⟩⟩, h⟩
    · refine (xpr_arg w hg hr hn hP hb hbn hc hx).mono ?_
      rintro e w' ⟨⟨v, rfl, hv⟩, h⟩
      exact ⟨⟨ot0, _, rfl, .inr ⟨fun h => hx h.2, rfl, hv⟩⟩, h⟩
  · refine (xpr_no w hg hr hn hP hb hc).mono ?_
    rintro e w' ⟨⟨v, rfl, hv⟩, h⟩
    exact ⟨⟨ot0, _, rfl, .inr ⟨fun h => hc h.1, rfl, hv⟩⟩, h⟩
/-- The small case: a <- b* 'x'? b <- [0-9]. -/
def small7L : List UInt8 := [97, 32, 60, 45, 32, 98, 42, 32, 39, 120, 39, 63, 32, 98, 32, 60, 45, 32, 91, 48, 45, 57, 93]
def small7U : List UInt8 := [97, 32, 60, 45, 32, 98, 42, 32, 39, 120, 39, 63, 10, 98, 32, 60, 45, 32, 91, 48, 45, 57, 93, 10]
def small7G : List Ru := [⟨[97], .mk 6 [] 0 [.mk 9 [] 0 [.mk 5 [98] 0 [] 5] 5, .mk 8 [] 0 [.mk 2 [120] 0 [] 8] 8] 5, 0⟩, ⟨[98], .mk 3 [] 0x3ff000000000000#256 [] 18, 13⟩]
theorem small7_lexed : lexed small7L = .inr [⟨1, [97], 0, 0⟩, ⟨2, [], 0, 2⟩, ⟨1, [98], 0, 5⟩, ⟨5, [42], 0, 6⟩, ⟨3, [120], 0, 8⟩, ⟨5, [63], 0, 11⟩, ⟨1, [98], 0, 13⟩, ⟨2, [], 0, 15⟩, ⟨4, [], 0x3ff000000000000#256, 18⟩, ⟨6, [], 0, 23⟩] := by
  refine lexed_toks (by decide) ?_
  unfold toks
  rfl
theorem small7_reads : Reads small7L (.inr small7G) := by
  unfold Reads
  rw [small7_lexed]
  refine ⟨30, .inr ⟨_, [⟨6, [], 0, 23⟩], ?_, rfl⟩⟩
  simp [small7G, pRules, pChoice, pAlts, pParts, pPart, pOne, kindT, posT, sgnOf, preK, sufK, joinN, nameT, Nd.pos]
theorem small7_ok : okG (small7G.map Ru.rr) = true := by
  simp [small7G, Ru.rr, Nd.tr, Nd.trs, okG, okU, okT, okH, okL]
  decide
set_option maxRecDepth 100000 in
theorem small7_set : txt 0x3ff000000000000#256 = [91, 48, 45, 57, 93] := by kernel_rfl
theorem small7_tx : txG (small7G.map Ru.rr) = small7U := by
  simp [small7G, Ru.rr, Nd.tr, Nd.trs, txG, txU, txT, pcT, pcR, paren, rankT, Tr.kind, txs, Pc.tx, postB, small7_set]
  rfl
theorem small7_fit : ∃ hs, Reads small7U (.inr hs) := by
  have hl : lexed small7U = .inr [⟨1, [97], 0, 0⟩, ⟨2, [], 0, 2⟩, ⟨1, [98], 0, 5⟩, ⟨5, [42], 0, 6⟩, ⟨3, [120], 0, 8⟩, ⟨5, [63], 0, 11⟩, ⟨1, [98], 0, 13⟩, ⟨2, [], 0, 15⟩, ⟨4, [], 0x3ff000000000000#256, 18⟩, ⟨6, [], 0, 24⟩] := by
    refine lexed_toks (by decide) ?_
    unfold toks
    rfl
  refine ⟨small7G, ?_⟩
  unfold Reads
  rw [hl]
  refine ⟨30, .inr ⟨_, [⟨6, [], 0, 24⟩], ?_, rfl⟩⟩
  simp [small7G, pRules, pChoice, pAlts, pParts, pPart, pOne, kindT, posT, sgnOf, preK, sufK, joinN, nameT, Nd.pos]
theorem pr_of {g : List Rr} (h1 : okG g = true) (h2 : (txG g).length ≤ 8192) {hs : List Ru} (h3 : Reads (txG g) (.inr hs)) : PrRes g (.inr (txG g)) := .inr (.inr ⟨h1, h2, .inr ⟨hs, h3, rfl⟩⟩)
set_option maxRecDepth 100000 in
theorem small7_pr : PrRes (small7G.map Ru.rr) (.inr (txG (small7G.map Ru.rr))) := by
  obtain ⟨hs, h⟩ := small7_fit
  have h2 : (txG (small7G.map Ru.rr)).length ≤ 8192 := by
    rw [small7_tx]
    simp only [small7U, List.length_cons, List.length_nil]
    omega
  rw [← small7_tx] at h
  exact pr_of small7_ok h2 h
set_option maxRecDepth 100000 in
theorem small7_ck : CkOk (small7G.map Ru.rr) := by
  refine ⟨⟨_, small7_pr⟩, ?_, ?_⟩
  · intro i y hy
    match i, hy with
    | 0, hy => simp [small7G, Ru.rr] at hy; subst hy; simp [fdx, small7G, Ru.rr, List.findIdx?_cons]
    | 1, hy => simp [small7G, Ru.rr] at hy; subst hy; simp [fdx, small7G, Ru.rr, List.findIdx?_cons]
    | _ + 2, hy => simp [small7G] at hy
  · intro y hy
    simp only [small7G, List.map_cons, List.map_nil, List.mem_cons, List.not_mem_nil, or_false] at hy
    rcases hy with rfl | rfl <;> simp [Ru.rr, Nd.tr, Nd.trs, rfT, rfL, known, fdx, small7G, List.findIdx?_cons]
theorem small7_least {T : List UInt8 → Ot} (h : Least (small7G.map Ru.rr) T) : T [97] = ⟨true, true, false⟩ ∧ T [98] = ⟨false, true, true⟩ := by
  have h2 := h.1 ⟨[98], .mk 3 [] 0x3ff000000000000#256 [] 18, 13⟩ (by simp [small7G, Ru.rr, Nd.tr, Nd.trs])
  have h1 := h.1 ⟨[97], .mk 6 [] 0 [.mk 9 [] 0 [.mk 5 [98] 0 [] 5] 5, .mk 8 [] 0 [.mk 2 [120] 0 [] 8] 8] 5, 0⟩ (by simp [small7G, Ru.rr, Nd.tr, Nd.trs])
  have hc : ((0x3ff000000000000#256) == 0#256) = false := by decide
  have e2 : T [98] = ⟨false, true, true⟩ := by
    rw [← h2]
    simp [exT, hc]
  refine ⟨?_, e2⟩
  rw [← h1]
  simp [exT, exS, exH, e2, otA, otB]
theorem small7_bulk : Rr.bulks (small7G.map Ru.rr) ≤ 1000000000 := by
  simp [small7G, Ru.rr, Nd.tr, Nd.trs, Rr.bulks, Rr.bulk, Tr.bulk, Tr.bulks]
theorem small7_outs {T : List UInt8 → Ot} (h : Least (small7G.map Ru.rr) T) : outs T (small7G.map Ru.rr) = [.bool true, .bool true, .bool false, .bool false, .bool true, .bool true] := by
  obtain ⟨h1, h2⟩ := small7_least h
  simp [outs, small7G, Ru.rr, h1, h2, otC]
end Go.Proofs.YtjlcoldnhbkcgaaGreatDoor
namespace Go.Proofs.YtjlcoldnhbkcgaaGreatDoor
open Go.RowKit Go.Sort

set_option maxRecDepth 100000 in
set_option maxHeartbeats 6400000 in
theorem small7_any (w : World) (hg : Laid w) : Calls Tryz.prog 11 #[] w (Ans (.bool true) w) := by
  have HR := Lib.hid (show Reads (bl ⟨#[97, 32, 60, 45, 32, 98, 42, 32, 39, 120, 39, 63, 32, 98, 32, 60, 45, 32, 91, 48, 45, 57, 93]⟩) _ from small7_reads)
  have HL := Lib.hid hg
  have hm1 := cell_alloc_lt
  have f7 := guard_out
  have f8 := equal_out
  clear hg
  go_enter Tryz.func11, Tryz.ntmps11
  repeat (first | go_values | go_skip | go_guarded | go_step | go_upon)
  refine (syn_inr ⟨#[97, 32, 60, 45, 32, 98, 42, 32, 39, 120, 39, 63, 32, 98, 32, 60, 45, 32, 91, 48, 45, 57, 93]⟩ _ HL.out (by decide) HR.out).mono ?_
  rintro e w1 ⟨⟨v, rfl, hG⟩, hb1⟩
  obtain ⟨a, cap, rfl⟩ := gbulk hG
  have HG := Lib.hid hG.anyG
  have HB := Lib.hid hb1
  clear hG
  dsimp only
  repeat (first | go_values | go_skip | go_guarded | go_step | go_upon)
  refine (nRules_ok _ (HL.out.below (by repeat (first | exact Below.refl _ _ | assumption | refine bal ?_ _ | refine bdr ?_ | refine bdrn ?_ _ | (refine bset ?_ (by first | exact Nat.le_refl _ | (simp; done) | (simp; omega) | omega) _) | refine bstep ?_ (by assumption))) HL.out.pos) (HG.out.mono (fun b hb => RowKit.Below.heap_alloc _ _ _ hb.2) (fun _ h => h)) (fun b hb => by have := hb.2; simp; omega) small7_bulk small7_ck).mono ?_
  rintro e w2 ⟨u, T, rfl, hT, hrow, hb2⟩
  rw [small7_outs hT] at hrow
  obtain ⟨g, cap2, rfl, _, qg⟩ := hrow.form (by decide)
  have c0 := hrow.cellAt 0 (by decide)
  have c1 := hrow.cellAt 1 (by decide)
  have c2 := hrow.cellAt 2 (by decide)
  have c3 := hrow.cellAt 3 (by decide)
  have c4 := hrow.cellAt 4 (by decide)
  have c5 := hrow.cellAt 5 (by decide)
  dsimp at c0 c1 c2 c3 c4 c5
  have HB2 := Lib.hid hb2
  clear hrow hT hb2
  dsimp only [small7G, List.length, List.map]
  repeat (first | go_values | go_skip | go_guarded | go_step | go_upon)
  go_ret
  exact ⟨rfl, HB.out.trans (((bal (Below.refl _ w1) _).trans (HB2.out.mono (by simp))).mono HB.out.size)⟩
/-- Expr of a grammar among the arguments, and any node. -/
theorem xpr_law {g : List Rr} {v : Value} {w : World} (hg : Laid w) (hr : RepGr w (fun b => b < w.heap.size) g v) (hb : Rr.bulks g ≤ 1000000000) (W : World) (hW : Below w.heap.size w W) (n : Tr) (cs : List Value) (hn : RepA W (fun b => b < W.heap.size) n cs) (hbn : n.bulk ≤ 999999999) : Calls Tryz.prog 13 #[.agg #[v], .agg cs.toArray] W (fun e w' => (∃ o v, e = .returned (.tuple #[.agg (otC o).toArray, v]) ∧ XpR g n o v) ∧ Below W.heap.size W w') :=
  xpr_any W (hg.below hW hg.pos) (hr.under hW) hn (fun _ h => h) hb hbn
theorem XpR.det {g : List Rr} {n : Tr} {o : Ot} {T : List UInt8 → Ot} (h : XpR g n o .nilIface) (hT : Least g T) : o = exT T n := by
  rcases h with ⟨_, _, _, T', hT', rfl⟩ | ⟨_, _, ⟨c, e⟩ | ⟨p, e⟩⟩
  · rw [hT'.det hT]
  · cases e
  · cases e
theorem XpR.forms {g : List Rr} {n : Tr} {o : Ot} {v : Value} (h : XpR g n o v) : (v = .nilIface ∧ ∃ T, Least g T) ∨ ∃ t x, v = .iface t x := by
  rcases h with ⟨_, _, e, T', hT', _⟩ | ⟨_, _, ⟨c, e⟩ | ⟨p, e⟩⟩
  · exact .inl ⟨e, T', hT'⟩
  · exact .inr ⟨_, _, e⟩
  · exact .inr ⟨_, _, e⟩
end Go.Proofs.YtjlcoldnhbkcgaaGreatDoor
namespace Go.Proofs.YtjlcoldnhbkcgaaGreatDoor
open Go.RowKit Go.Sort

theorem bulk_one {n : Tr} {k : Int} : (Tr.mk k [] 0 [n] 0).bulk ≤ n.bulk + 100 := by
  simp [Tr.bulk, Tr.bulks]
  omega
set_option maxRecDepth 100000 in
set_option maxHeartbeats 12800000 in
theorem nlooks_any {g : List Rr} {v : Value} {n : Tr} {cs : List Value} {P P2 : Nat → Prop} (w : World) (hg : Laid w) (hr : RepGr w P g v) (hP : ∀ b, P b → b < w.heap.size) (hb : Rr.bulks g ≤ 1048576) (hn : RepA w P2 n cs) (hP2 : ∀ b, P2 b → b < w.heap.size) (hbn : n.bulk ≤ 1048576) : Calls Tryz.prog 5 #[.agg #[v], .agg cs.toArray] w (Ans (.bool true) w) := by
  obtain ⟨ga, gcap, rfl, _⟩ := hr.slice
  have hn0 := hn.mono (P' := fun b => b < w.heap.size) (fun _ _ => rfl) hP2
  obtain ⟨k, t, x, u, l, p, _, rfl, hl⟩ := hn.form
  obtain ⟨sa, cap, rfl, _⟩ := hl.slice
  have HL := Lib.hid hg
  have HN := Lib.hid (fun (W : World) (h : Below w.heap.size w W) => hn0.under h)
  have HX := Lib.hid (xpr_law hg (hr.mono (P' := fun b => b < w.heap.size) (fun _ _ => rfl) hP) (by omega))
  have HBN := Lib.hid hbn
  have hm1 := cell_alloc_lt
  have f7 := guard_out
  have f8 := equal_out
  have HS0 := Lib.hid (((bks_nil w).push #[.slice ga g.length gcap] 24 rfl).push (trC k t x (.slice sa l.length cap) p).toArray 40 (b := w.heap.size + 1) (by simp))
  have HB0 := Lib.hid (show Below w.heap.size w ((w.alloc (.cells #[.slice ga g.length gcap] 24)).alloc (.cells (trC k t x (.slice sa l.length cap) p).toArray 40)) from bal (bal (Below.refl _ w) _) _)
  clear hg hr hP hb hn hP2 hbn hn0 hl
  dsimp only [trC] at HS0 HN HB0 ⊢
  go_enter Tryz.func5, Tryz.ntmps5
  repeat (first | go_values | go_skip | go_guarded | go_step | go_upon)
  refine (small7_any _ (HL.out.below HB0.out HL.out.pos)).mono ?_
  rintro e w1 ⟨rfl, hb1⟩
  have HS1 := Lib.hid (HS0.out.below hb1)
  have HB1 := Lib.hid (HB0.out.trans (hb1.mono HB0.out.size))
  clear hb1
  obtain ⟨e0, e1, e2, e3, e4, e5, e6, e7, qn⟩ := cells8 HS1.out.1
  obtain ⟨g0, qg⟩ := cells1 HS1.out.2.1
  dsimp only
  repeat (first | go_values | go_skip | go_guarded | go_step | go_upon)
  refine (HX.out _ HB1.out n _ (HN.out _ HB1.out) (by have := HBN.out; omega)).mono ?_
  clear e0 e1 e2 e3 e4 e5 e6 e7 qn g0 qg
  rintro e w2 ⟨⟨⟨a1, a2, a3⟩, v1, rfl, hx1⟩, hb2⟩
  have HS2 := Lib.hid (HS1.out.below hb2)
  have HB2 := Lib.hid (HB1.out.trans (hb2.mono HB1.out.size))
  have X1 := Lib.hid hx1
  clear hb2 hx1
  obtain ⟨e0, e1, e2, e3, e4, e5, e6, e7, qn⟩ := cells8 HS2.out.1
  obtain ⟨g0, qg⟩ := cells1 HS2.out.2.1
  have HS3 := Lib.hid (((((HS2.out.push #[.bool a1, .bool a2, .bool a3] 32 rfl).push #[.int .i64 k, .string (mkS t), .int .u64 (wd x 0), .int .u64 (wd x 1), .int .u64 (wd x 2), .int .u64 (wd x 3), .slice sa l.length cap, .int .i64 p] 40 (b := w2.heap.size + 1) (by simp)).push (ndK 11 (w2.heap.size + 1) 1).toArray 40 (b := w2.heap.size + 2) (by simp)).push #[.int .i64 k, .string (mkS t), .int .u64 (wd x 0), .int .u64 (wd x 1), .int .u64 (wd x 2), .int .u64 (wd x 3), .slice sa l.length cap, .int .i64 p] 40 (b := w2.heap.size + 3) (by simp)).push (ndK 12 (w2.heap.size + 3) 1).toArray 40 (b := w2.heap.size + 4) (by simp))
  dsimp only [ndK] at HS3
  have HB3 := Lib.hid (bal (bal (bal (bal (bal HB2.out (.cells #[.bool a1, .bool a2, .bool a3] 32)) (.cells #[.int .i64 k, .string (mkS t), .int .u64 (wd x 0), .int .u64 (wd x 1), .int .u64 (wd x 2), .int .u64 (wd x 3), .slice sa l.length cap, .int .i64 p] 40)) (.cells #[.int .i64 11, .string ⟨#[]⟩, .int .u64 0, .int .u64 0, .int .u64 0, .int .u64 0, .slice (some ⟨w2.heap.size + 1, 0, none⟩) 1 1, .int .i64 0] 40)) (.cells #[.int .i64 k, .string (mkS t), .int .u64 (wd x 0), .int .u64 (wd x 1), .int .u64 (wd x 2), .int .u64 (wd x 3), .slice sa l.length cap, .int .i64 p] 40)) (.cells #[.int .i64 12, .string ⟨#[]⟩, .int .u64 0, .int .u64 0, .int .u64 0, .int .u64 0, .slice (some ⟨w2.heap.size + 3, 0, none⟩) 1 1, .int .i64 0] 40))
  obtain ⟨n0, n1, n2, n3, n4, n5, n6, n7, qm⟩ := cells8 HS3.out.2.2.1
  obtain ⟨g1, qg1⟩ := cells1 HS3.out.2.2.2.2.2.2.1
  dsimp only [otC]
  repeat (first | go_values | go_skip | go_guarded | go_step | go_upon)
  refine (HX.out _ HB3.out (.mk 11 [] 0 [n] 0) (ndK 11 (w2.heap.size + 1) 1) (rep_one 11 HS3.out.2.2.2.1 (HN.out _ HB3.out)) (by have := HBN.out; have := bulk_one (n := n) (k := 11); omega)).mono ?_
  clear e0 e1 e2 e3 e4 e5 e6 e7 qn g0 qg n0 n1 n2 n3 n4 n5 n6 n7 qm g1 qg1
  rintro e w3 ⟨⟨⟨b1, b2, b3⟩, v2, rfl, hx2⟩, hb3⟩
  have HS4 := Lib.hid (HS3.out.below hb3)
  have HB4 := Lib.hid (HB3.out.trans (hb3.mono HB3.out.size))
  have X2 := Lib.hid hx2
  clear hb3 hx2
  have HS5 := Lib.hid (HS4.out.push #[.bool b1, .bool b2, .bool b3] 32 rfl)
  have HB5 := Lib.hid (bal HB4.out (.cells #[.bool b1, .bool b2, .bool b3] 32))
  obtain ⟨n0, n1, n2, n3, n4, n5, n6, n7, qm⟩ := cells8 HS4.out.1
  obtain ⟨g0, qg⟩ := cells1 HS4.out.2.2.2.2.2.2.1
  dsimp only [otC]
  repeat (first | go_values | go_skip | go_guarded | go_step | go_upon)
  refine (HX.out _ HB5.out (.mk 12 [] 0 [n] 0) (ndK 12 (w2.heap.size + 3) 1) (rep_one 12 HS5.out.2.2.1 (HN.out _ HB5.out)) (by have := HBN.out; have := bulk_one (n := n) (k := 12); omega)).mono ?_
  clear n0 n1 n2 n3 n4 n5 n6 n7 qm g0 qg
  rintro e w4 ⟨⟨⟨c1, c2, c3⟩, v3, rfl, hx3⟩, hb4⟩
  have HS6 := Lib.hid (HS5.out.below hb4)
  have HB6 := Lib.hid (HB5.out.trans (hb4.mono HB5.out.size))
  have X3 := Lib.hid hx3
  clear hb4 hx3
  have HS7 := Lib.hid ((HS6.out.push #[.bool c1, .bool c2, .bool c3] 32 rfl).push (ndK 12 (w2.heap.size + 3) 1).toArray 40 (b := w4.heap.size + 1) (by simp))
  dsimp only [ndK] at HS7
  have HB7 := Lib.hid (bal (bal HB6.out (.cells #[.bool c1, .bool c2, .bool c3] 32)) (.cells #[.int .i64 12, .string ⟨#[]⟩, .int .u64 0, .int .u64 0, .int .u64 0, .int .u64 0, .slice (some ⟨w2.heap.size + 3, 0, none⟩) 1 1, .int .i64 0] 40))
  obtain ⟨n0, n1, n2, n3, n4, n5, n6, n7, qm⟩ := cells8 HS6.out.2.1
  obtain ⟨g0, qg⟩ := cells1 HS6.out.2.2.2.2.2.2.2.1
  obtain ⟨g1, qg1⟩ := cells1 HS7.out.2.2.2.2.2.2.2.2.2.1
  dsimp only [otC]
  repeat (first | go_values | go_skip | go_guarded | go_step | go_upon)
  refine (HX.out _ HB7.out (.mk 12 [] 0 [.mk 12 [] 0 [n] 0] 0) (ndK 12 (w4.heap.size + 1) 1) (rep_one 12 HS7.out.1 (rep_one 12 HS7.out.2.2.2.2.1 (HN.out _ HB7.out))) (by have := HBN.out; have := bulk_one (n := n) (k := 12); have := bulk_one (n := .mk 12 [] 0 [n] 0) (k := 12); omega)).mono ?_
  clear n0 n1 n2 n3 n4 n5 n6 n7 qm g0 qg g1 qg1
  rintro e w5 ⟨⟨⟨d1, d2, d3⟩, v4, rfl, hx4⟩, hb5⟩
  have HS8 := Lib.hid (HS7.out.below hb5)
  have HB8 := Lib.hid (HB7.out.trans (hb5.mono HB7.out.size))
  have X4 := Lib.hid hx4
  clear hb5 hx4
  obtain ⟨l0, l1, l2, ql⟩ := cells3 HS8.out.2.1
  obtain ⟨m0, m1, m2, qm⟩ := cells3 HS8.out.2.2.1
  obtain ⟨o0, o1, o2, qo⟩ := cells3 HS8.out.2.2.2.2.2.2.2.1
  rcases X1.out.forms.symm with ⟨et, ex, rfl⟩ | ⟨rfl, T, hT⟩
  · dsimp only [otC]
    repeat (first | go_values | go_skip | go_guarded | go_step | go_upon)
    go_ret
    exact ⟨rfl, bal HB8.out _⟩
  have HT := Lib.hid hT
  clear hT
  rcases X2.out.forms.symm with ⟨et, ex, rfl⟩ | ⟨rfl, _⟩
  · dsimp only [otC]
    repeat (first | go_values | go_skip | go_guarded | go_step | go_upon)
    go_ret
    exact ⟨rfl, bal HB8.out _⟩
  rcases X3.out.forms.symm with ⟨et, ex, rfl⟩ | ⟨rfl, _⟩
  · dsimp only [otC]
    repeat (first | go_values | go_skip | go_guarded | go_step | go_upon)
    go_ret
    exact ⟨rfl, bal HB8.out _⟩
  rcases X4.out.forms.symm with ⟨et, ex, rfl⟩ | ⟨rfl, _⟩
  · dsimp only [otC]
    repeat (first | go_values | go_skip | go_guarded | go_step | go_upon)
    go_ret
    exact ⟨rfl, bal HB8.out _⟩
  have z1 := X1.out.det HT.out
  have z2 : (⟨b1, b2, b3⟩ : Ot) = otA 11 (exT T n) := by rw [X2.out.det HT.out]; simp [exT, exH]
  have z3 : (⟨c1, c2, c3⟩ : Ot) = otA 12 (exT T n) := by rw [X3.out.det HT.out]; simp [exT, exH]
  have z4 : (⟨d1, d2, d3⟩ : Ot) = otA 12 (otA 12 (exT T n)) := by rw [X4.out.det HT.out]; simp [exT, exH]
  rw [← z1] at z2 z3 z4
  clear z1
  cases a1 <;> cases a2 <;> cases a3
  all_goals
    simp [otA] at z2 z3 z4
    obtain ⟨rfl, rfl, rfl⟩ := z2
    obtain ⟨rfl, rfl, rfl⟩ := z3
    obtain ⟨rfl, rfl, rfl⟩ := z4
    dsimp only [otC]
    repeat (first | go_values | go_skip | go_guarded | go_step | go_upon)
    go_ret
    exact ⟨rfl, bal HB8.out _⟩
end Go.Proofs.YtjlcoldnhbkcgaaGreatDoor
