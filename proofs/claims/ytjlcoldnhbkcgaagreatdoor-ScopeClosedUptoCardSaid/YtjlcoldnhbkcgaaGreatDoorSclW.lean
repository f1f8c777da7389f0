/- The walk of ScopeClosed. -/
import Derived.Test.YtjlcoldnhbkcgaaGreatDoorHasW
namespace Go.Proofs.YtjlcoldnhbkcgaaGreatDoor
open Go.RowKit Go.Sort

set_option maxRecDepth 100000 in
set_option maxHeartbeats 12800000 in
theorem sclosed_ok {g : List Rr} {v : Value} {P : Nat → Prop} (w : World) (hg : Laid w) (hr : RepGr w P g v) (hP : ∀ b, P b → b < w.heap.size) (hb : Rr.bulks g ≤ 1048576) (hc : CkOk g) (f : Nat) (hf : f < g.length) : Calls Tryz.prog 6 #[.agg #[v], .int .i64 (f : Int)] w (Ans (.bool true) w) := by
  obtain ⟨n, hn⟩ : ∃ n, n = g.length := ⟨_, rfl⟩
  obtain ⟨a, cap, rfl, hcap, _⟩ := hr.slice
  obtain ⟨hall, hn0, hn64⟩ := okG_all hc.okg
  have HL := Lib.hid hg
  have HL1 := Lib.hid (fun (W : World) (h : Below w.heap.size w W) => HL.out.below h HL.out.pos)
  have hm1 := cell_alloc_lt
  have HS0 := Lib.hid ((bks_nil w).push #[.slice a g.length cap] 24 rfl)
  have HB0 := Lib.hid (bal (Below.refl _ w) (.cells #[.slice a g.length cap] 24))
  have HU := Lib.hid (fun (W : World) (h : Below w.heap.size w W) => sUses_ok W (hg.below h hg.pos) (hr.on hP h) (fun b hb => Nat.lt_of_lt_of_le (hP b hb) h.size) (by omega) hc)
  have HRE := Lib.hid (fun (k : Nat) (hk : k < g.length) (W : World) (h : Below w.heap.size w W) => sReach_ok W k (hg.below h hg.pos) (hr.on hP h) (fun b hb => Nat.lt_of_lt_of_le (hP b hb) h.size) (by omega) hc hk)
  have HG := Lib.hid (show ∀ k x, Rch (rowsG g) f k → Rch (rowsG g) k x → x < g.length from fun k x h1 h2 => (h1.trans h2).lt hf)
  rw [← hn] at HU HRE HS0 HB0 hcap hn64 hn0 hf ⊢
  have HN := Lib.hid hn
  have HF := Lib.hid hf
  clear hg hr hP hb hn hc hall
  go_enter Tryz.func6, Tryz.ntmps6
  repeat (first | go_values | go_skip | go_guarded | go_step | go_upon)
  refine (small6_any _ (HL1.out _ HB0.out)).mono ?_
  rintro e w1 ⟨rfl, hb1⟩
  have HS1 := Lib.hid (HS0.out.below hb1)
  have HB1 := Lib.hid (HB0.out.trans (hb1.mono HB0.out.size))
  clear hb1
  obtain ⟨g0, qg⟩ := cells1 HS1.out.1
  dsimp only
  repeat (first | go_values | go_skip | go_guarded | go_step | go_upon)
  refine (HU.out _ HB1.out).mono ?_
  rintro e w2 ⟨u, rfl, hu, hb2⟩
  obtain ⟨gu, ucap, hu0, _, hgu2⟩ := hu.form (by rw [← HN.out]; exact hn0)
  rw [← HN.out] at hu0
  subst hu0
  obtain ⟨cells, hown, hinr⟩ := hu
  have HS2 := Lib.hid (HS1.out.below hb2)
  have HB2 := Lib.hid (HB1.out.trans (hb2.mono HB1.out.size))
  have HO2 := Lib.hid hown
  have HI2 := Lib.hid hinr
  clear hb2 g0 qg hown hinr
  rw [← HN.out] at HO2
  obtain ⟨g0, qg⟩ := cells1 HS2.out.1
  dsimp only
  repeat (first | go_values | go_skip | go_guarded | go_step | go_upon)
  refine (HRE.out f HF.out _ HB2.out).mono ?_
  rintro e w3 ⟨⟨rv, us, rfl, hset, hrow⟩, hb3⟩
  obtain ⟨ra, rcap, hrv, hrc, hrc2⟩ := hrow.form
  have HS3 := Lib.hid (HS2.out.below hb3)
  have HB3 := Lib.hid (HB2.out.trans (hb3.mono HB2.out.size))
  have HO3 := Lib.hid (owns_below HO2.out hb3)
  have HI3 := Lib.hid (HI2.out.below hb3)
  have HR3 := Lib.hid hrow
  have HSET := Lib.hid hset
  have hgu3 : gu < w3.heap.size := Nat.lt_of_lt_of_le hgu2 hb3.size
  obtain ⟨m, hm⟩ : ∃ m, m = us.length := ⟨_, rfl⟩
  have hm64 : us.length ≤ 64 := by
    have h1 := few_lt hset.1 (fun i hi => ((hset.2 i).1 hi).lt (by rw [← HN.out]; exact HF.out))
    have := HN.out
    omega
  have HM64 := Lib.hid hm64
  rw [← hm] at hrc hm64 hrv
  subst hrv
  have HM := Lib.hid hm
  have HRC := Lib.hid hrc2
  clear hb3 g0 qg hset hrow hm hrc2
  obtain ⟨g0, qg⟩ := cells1 HS3.out.1
  dsimp only
  repeat (first | go_values | go_skip | go_guarded | go_step | go_upon)
  refine (lhas_any f true (any_in ((HSET.out.2 f).2 .self)) w3 HR3.out (by have := HM64.out; omega)).mono ?_
  rintro e w4 ⟨rfl, hb4⟩
  have HS4 := Lib.hid (HS3.out.below hb4)
  have HB4 := Lib.hid (HB3.out.trans (hb4.mono HB3.out.size))
  have HO4 := Lib.hid (owns_below HO3.out hb4)
  have HI4 := Lib.hid (HI3.out.below hb4)
  have HR4 := Lib.hid (HR3.out.below hb4)
  clear hb4 g0 qg
  obtain ⟨g0, qg⟩ := cells1 HS4.out.1
  have d9 : ((n : Int) != (n : Int)) = false := by simp
  dsimp only
  repeat (first | go_values | go_skip | go_guarded | go_step | go_upon)
  go_loopw [11] (fun tt wr => ∃ j : Nat, tt = .int .i64 (j : Int) ∧ j ≤ m ∧ Below w4.heap.size w4 wr) (fun tt _ => m - (intOf tt).toNat)
  case atStart => exact ⟨0, rfl, Nat.zero_le _, Below.refl _ _⟩
  case round =>
    obtain ⟨j, rfl, hj, hbr⟩ := hrel
    have HBR := Lib.hid hbr
    have HW := Lib.hid (HB4.out.trans (hbr.mono HB4.out.size))
    have HSR := Lib.hid (HS4.out.below hbr)
    have HOR := Lib.hid (owns_below HO4.out hbr)
    have HIR := Lib.hid (HI4.out.below hbr)
    have HRR := Lib.hid (HR4.out.below hbr)
    have hz := hbr.size
    clear hbr g0 qg
    obtain ⟨g0, qg⟩ := cells1 HSR.out.1
    by_cases hlt : j < m
    · have hlt2 : j < us.length := by rw [← HM.out]; exact hlt
      obtain ⟨x, hx⟩ : ∃ x, us[j]? = some x := ⟨us[j], List.getElem?_eq_getElem hlt2⟩
      obtain ⟨ra2, rcap2, hrv, _, hrc⟩ := HRR.out.form
      obtain ⟨rfl, rfl⟩ : ra = ra2 ∧ rcap = rcap2 := by injection hrv with h1 _ h2; exact ⟨h1, h2⟩
      rcases hrc with e | ⟨gr, rfl, hgr, hcr⟩
      · rw [e] at hlt2; simp at hlt2
      · have hrx : Rch (rowsG g) f x := (HSET.out.2 x).1 (List.mem_of_getElem? hx)
        have hxn : x < n := by rw [HN.out]; exact hrx.lt (by rw [← HN.out]; exact HF.out)
        obtain ⟨ux, hux⟩ : ∃ ux, (rowsG g)[x]? = some ux := ⟨(rowsG g)[x]'(by rw [rowsG_len, ← HN.out]; exact hxn), List.getElem?_eq_getElem _⟩
        obtain ⟨_, xa, xm, cx, hxm, hxc⟩ := inr_row HOR.out HIR.out (by rw [rowsG_len, HN.out]) hux
        have c0 := hcr j x hx
        have d1 : decide ((j : Int) < m) = true := by simpa using hlt
        have hjm : (j : Int) < (m : Int) := by omega
        have hxn2 : (x : Int) < (n : Int) := by omega
        have d2 : decide ((x : Int) < 0) = false := decide_eq_false (by omega)
        have d3 : decide (n ≤ x) = false := decide_eq_false (by omega)
        have k5 : IntKind.i64.wrap ((j : Int) + 1) = (j : Int) + 1 := by rw [IntKind.wrap_i64]; omega
        obtain ⟨c, hc⟩ : ∃ c, c = ux.length := ⟨_, rfl⟩
        have hc64 : ux.length ≤ 64 := by
          have h1 := usL_set g (g[x]'(by rw [← HN.out]; exact hxn)).body
          have h2 := rowsG_get (List.getElem?_eq_getElem (show x < g.length by rw [← HN.out]; exact hxn))
          rw [hux] at h2
          injection h2 with h2
          rw [h2]
          have := few_lt h1.1 (fun i hi => usL_lt hi)
          have := HN.out
          omega
        rw [← hc] at cx hxm hc64
        have HCL := Lib.hid hc
        have HUX := Lib.hid hux
        have HXC := Lib.hid hxc
        have HRX := Lib.hid hrx
        have qgu : gu < wr.heap.size := (HOR.out.lt gu rfl).2
        clear hux hrv hxc hrx hc
        repeat (first | go_values | go_skip | go_guarded | go_step | go_upon)
        go_cut [89] from 60 to 89 (fun s wx => s = .bool false ∧ wx = wr.drew)
        case first =>
          rcases Nat.eq_zero_or_pos j with rfl | hjp
          · clear hlt hlt2
            go_region
            all_goals
              repeat (first | go_values | go_skip | go_guarded | go_step | go_upon)
              go_meet
              exact ⟨rfl, rfl⟩
          · obtain ⟨j', rfl⟩ : ∃ j', j = j' + 1 := ⟨j - 1, by omega⟩
            obtain ⟨y, hy⟩ : ∃ y, us[j']? = some y := ⟨us[j']'(by omega), List.getElem?_eq_getElem _⟩
            have c1 := hcr j' y hy
            have hyx : y < x := by
              obtain ⟨h1, e1⟩ := List.getElem?_eq_some_iff.1 hy
              obtain ⟨h2, e2⟩ := List.getElem?_eq_some_iff.1 hx
              rw [← e1, ← e2]
              exact List.pairwise_iff_getElem.1 HSET.out.1 j' (j' + 1) h1 h2 (by omega)
            have d4 : decide (x ≤ y) = false := decide_eq_false (by omega)
            have k6 : IntKind.i64.wrap (((j' + 1 : Nat) : Int) - 1) = (j' : Int) := by rw [IntKind.wrap_i64]; omega
            clear hlt hlt2 hy hx hcr hyx
            go_region
            all_goals
              repeat (first | go_values | go_skip | go_guarded | go_step | go_upon)
              go_meet
              exact ⟨rfl, rfl⟩
        case rest =>
          obtain ⟨rfl, rfl⟩ := hcut
          repeat (first | go_values | go_skip | go_guarded | go_step | go_upon)
          go_loopw [12] (fun tt wk => ∃ k : Nat, tt = .int .i64 (k : Int) ∧ k ≤ c ∧ Below wr.heap.size wr wk) (fun tt _ => c - (intOf tt).toNat)
          case atStart => exact ⟨0, rfl, Nat.zero_le _, bdr (Below.refl _ _)⟩
          case round =>
            obtain ⟨k, rfl, hk, hbk⟩ := hrel
            have HBK := Lib.hid hbk
            have hzk := hbk.size
            have f0 := (hbk.cell (p := ⟨gr, j, none⟩) hgr).trans c0
            have f1 := (hbk.cell (p := ⟨gu, x, none⟩) qgu).trans cx
            have qgr : gr < wr.heap.size := by omega
            have qgu2 : gu < wr.heap.size := by omega
            have HRK := Lib.hid (HRR.out.below hbk)
            clear hbk
            by_cases hlk : k < c
            · have hlk2 : k < ux.length := by rw [← HCL.out]; exact hlk
              obtain ⟨y, hy⟩ : ∃ y, ux[k]? = some y := ⟨ux[k], List.getElem?_eq_getElem hlk2⟩
              rcases HXC.out with e | ⟨gx, rfl, hgx, hcx⟩
              · rw [e] at hlk2; simp at hlk2
              · have f2 := (HBK.out.cell (p := ⟨gx, k, none⟩) hgx).trans (hcx k y hy)
                have qgx : gx < wr.heap.size := by omega
                have HH := Lib.hid (lhas_any y true (any_in ((HSET.out.2 y).2 (.step HRX.out HUX.out (List.mem_of_getElem? hy)))) wr HRK.out (by have := HM64.out; omega))
                have e1 : decide ((k : Int) < c) = true := by simpa using hlk
                have hkc : (k : Int) < (c : Int) := by omega
                have k7 : IntKind.i64.wrap ((k : Int) + 1) = (k : Int) + 1 := by rw [IntKind.wrap_i64]; omega
                clear hlk hlk2 hy hcx hx hcr d1 k5
                repeat (first | go_values | go_skip | go_guarded | go_step | go_upon)
                refine HH.out.mono ?_
                rintro e w8 ⟨rfl, hb8⟩
                dsimp only
                repeat (first | go_values | go_skip | go_guarded | go_step | go_upon)
                exact ⟨⟨k + 1, by go_num, by omega, HBK.out.trans (hb8.mono hzk)⟩, by simp [intOf]; omega⟩
            · have e1 : decide ((k : Int) < c) = false := by simpa using hlk
              obtain rfl : k = c := by omega
              have h0 := (HBK.out.cell (p := ⟨w.heap.size, 0, none⟩) qg).trans g0
              have qg2 : w.heap.size < wr.heap.size := by omega
              clear hlk hx hcr
              repeat (first | go_values | go_skip | go_guarded | go_step | go_upon)
              go_cut [14, 15] from 116 to 125 (fun s14 s15 wx => ∃ us5, s15 = .nilIface ∧ Hid (SetL (Rch (rowsG g) x) us5) ∧ Hid (RowP wx 0 s14 us5) ∧ Hid (Below wr.heap.size wr wx))
              case first =>
                go_region_with (first | (go_at_call 16; refine (HRE.out x hxn _ (HW.out.trans ((HBK.out.trans (by repeat (first | exact Below.refl _ _ | assumption | refine bdr ?_ | refine bal ?_ _))).mono (by have := HW.out.size; omega)))).mono ?_; rintro e w5 ⟨⟨v5, us5, rfl, hset5, hrow5⟩, hb5⟩; try dsimp only))
                all_goals
                  repeat (first | go_values | go_skip | go_guarded | go_step | go_upon)
                  go_meet
                  exact ⟨us5, rfl, Lib.hid hset5, Lib.hid (World.ownsRow.mono hrow5 (Nat.zero_le _)), Lib.hid (by repeat (first | exact Below.refl _ _ | assumption | refine bal ?_ _ | refine bdr ?_ | refine bdrn ?_ _ | (refine bset ?_ (by first | exact Nat.le_refl _ | (simp; done) | (simp; omega) | omega) _) | refine bstep ?_ (by assumption)))⟩
              case rest =>
                obtain ⟨us5, rfl, HSET5, HROW5, HB5⟩ := hcut
                obtain ⟨r5, cap5, rfl, h5, hc5⟩ := HROW5.out.form
                have HRK2 := Lib.hid (HRK.out.below HB5.out)
                have HBW := Lib.hid (HBK.out.trans (HB5.out.mono hzk))
                have HC5 := Lib.hid hc5
                have h64 : us5.length ≤ 64 := by
                  have := few_lt HSET5.out.1 (fun i hi => ((HSET5.out.2 i).1 hi).lt (by rw [← HN.out]; exact hxn))
                  have := HN.out
                  omega
                obtain ⟨m5, hm5⟩ : ∃ m5, m5 = us5.length := ⟨_, rfl⟩
                rw [← hm5] at h5 h64 ⊢
                have HM5 := Lib.hid hm5
                have hzx := HB5.out.size
                clear hm5 hc5
                repeat (first | go_values | go_skip | go_guarded | go_step | go_upon)
                go_loopw [16] (fun tt wz => ∃ k2 : Nat, tt = .int .i64 (k2 : Int) ∧ k2 ≤ m5 ∧ Below wc.heap.size wc wz) (fun tt _ => m5 - (intOf tt).toNat)
                case atStart => exact ⟨0, rfl, Nat.zero_le _, Below.refl _ _⟩
                case round =>
                  obtain ⟨k2, rfl, hk2, hbz⟩ := hrel
                  have HBZ := Lib.hid hbz
                  have hzz := hbz.size
                  have HRZ := Lib.hid (HRK2.out.below hbz)
                  clear hbz
                  by_cases hlz : k2 < m5
                  · have hlz2 : k2 < us5.length := by rw [← HM5.out]; exact hlz
                    obtain ⟨y, hy⟩ : ∃ y, us5[k2]? = some y := ⟨us5[k2], List.getElem?_eq_getElem hlz2⟩
                    rcases HC5.out with e | ⟨g5, rfl, hg5, hcz⟩
                    · rw [e] at hlz2; simp at hlz2
                    · have f4 := (HBZ.out.cell (p := ⟨g5, k2, none⟩) hg5).trans (hcz k2 y hy)
                      have qg5 : g5 < wr.heap.size := by omega
                      have HH := Lib.hid (lhas_any y true (any_in ((HSET.out.2 y).2 (HRX.out.trans ((HSET5.out.2 y).1 (List.mem_of_getElem? hy))))) wr HRZ.out (by have := HM64.out; omega))
                      have e2 : decide ((k2 : Int) < m5) = true := by simpa using hlz
                      have hkz : (k2 : Int) < (m5 : Int) := by omega
                      have k8 : IntKind.i64.wrap ((k2 : Int) + 1) = (k2 : Int) + 1 := by rw [IntKind.wrap_i64]; omega
                      clear hlz hlz2 hy hcz
                      repeat (first | go_values | go_skip | go_guarded | go_step | go_upon)
                      refine HH.out.mono ?_
                      rintro e w8 ⟨rfl, hb8⟩
                      dsimp only
                      repeat (first | go_values | go_skip | go_guarded | go_step | go_upon)
                      exact ⟨⟨k2 + 1, by go_num, by omega, HBZ.out.trans (hb8.mono hzz)⟩, by simp [intOf]; omega⟩
                  · have e2 : decide ((k2 : Int) < m5) = false := by simpa using hlz
                    obtain rfl : k2 = m5 := by omega
                    clear hlz
                    repeat (first | go_values | go_skip | go_guarded | go_step | go_upon)
                    exact ⟨⟨j + 1, by go_num, by omega, HBR.out.trans ((HBW.out.trans (HBZ.out.mono (by have := HBW.out.size; omega))).mono hz)⟩, by simp [intOf]; omega⟩
    · have d1 : decide ((j : Int) < m) = false := by simpa using hlt
      obtain rfl : j = m := by omega
      clear hlt
      repeat (first | go_values | go_skip | go_guarded | go_step | go_upon)
      go_ret
      exact ⟨rfl, HW.out⟩
set_option maxRecDepth 100000 in
set_option maxHeartbeats 6400000 in
theorem sclosed_no {g : List Rr} {v : Value} {P : Nat → Prop} (w : World) (hg : Laid w) (hr : RepGr w P g v) (hP : ∀ b, P b → b < w.heap.size) (hb : Rr.bulks g ≤ 1048576) (f : Int) (hc : ¬ CkOk g) : Calls Tryz.prog 6 #[.agg #[v], .int .i64 f] w (Ans (.bool true) w) := by
  obtain ⟨a, cap, rfl, hcap, _⟩ := hr.slice
  have HL := Lib.hid hg
  have HL1 := Lib.hid (fun (W : World) (h : Below w.heap.size w W) => HL.out.below h HL.out.pos)
  have hm1 := cell_alloc_lt
  have HS0 := Lib.hid ((bks_nil w).push #[.slice a g.length cap] 24 rfl)
  have HB0 := Lib.hid (bal (Below.refl _ w) (.cells #[.slice a g.length cap] 24))
  have HU := Lib.hid (fun (W : World) (h : Below w.heap.size w W) => sUses_no W (hg.below h hg.pos) (hr.on hP h) (fun b hb => Nat.lt_of_lt_of_le (hP b hb) h.size) (by omega) hc)
  have HRE := Lib.hid (fun (W : World) (h : Below w.heap.size w W) => sReach_no W f (hg.below h hg.pos) (hr.on hP h) (fun b hb => Nat.lt_of_lt_of_le (hP b hb) h.size) (by omega) hc)
  clear hg hr hP hb hc
  go_enter Tryz.func6, Tryz.ntmps6
  repeat (first | go_values | go_skip | go_guarded | go_step | go_upon)
  refine (small6_any _ (HL1.out _ HB0.out)).mono ?_
  rintro e w1 ⟨rfl, hb1⟩
  have HS1 := Lib.hid (HS0.out.below hb1)
  have HB1 := Lib.hid (HB0.out.trans (hb1.mono HB0.out.size))
  clear hb1
  obtain ⟨g0, qg⟩ := cells1 HS1.out.1
  dsimp only
  repeat (first | go_values | go_skip | go_guarded | go_step | go_upon)
  refine (HU.out _ HB1.out).mono ?_
  rintro e w2 ⟨⟨v2, rfl, hv2⟩, hb2⟩
  have HS2 := Lib.hid (HS1.out.below hb2)
  have HB2 := Lib.hid (HB1.out.trans (hb2.mono HB1.out.size))
  obtain ⟨et, ex, rfl⟩ : ∃ et ex, v2 = .iface et ex := by rcases hv2 with ⟨_, rfl⟩ | ⟨_, rfl⟩ <;> exact ⟨_, _, rfl⟩
  clear hb2 g0 qg hv2
  obtain ⟨g0, qg⟩ := cells1 HS2.out.1
  dsimp only
  repeat (first | go_values | go_skip | go_guarded | go_step | go_upon)
  refine (HRE.out _ HB2.out).mono ?_
  rintro e w3 ⟨⟨v3, rfl, _⟩, hb3⟩
  dsimp only
  repeat (first | go_values | go_skip | go_guarded | go_step | go_upon)
  go_ret
  exact ⟨rfl, HB2.out.trans (hb3.mono HB2.out.size)⟩
set_option maxRecDepth 100000 in
set_option maxHeartbeats 6400000 in
theorem sclosed_arg {g : List Rr} {v : Value} {P : Nat → Prop} (w : World) (hg : Laid w) (hr : RepGr w P g v) (hP : ∀ b, P b → b < w.heap.size) (hb : Rr.bulks g ≤ 1048576) (f : Int) (hc : CkOk g) (hf : f < 0 ∨ (g.length : Int) ≤ f) : Calls Tryz.prog 6 #[.agg #[v], .int .i64 f] w (Ans (.bool true) w) := by
  obtain ⟨a, cap, rfl, hcap, _⟩ := hr.slice
  have HL := Lib.hid hg
  have HL1 := Lib.hid (fun (W : World) (h : Below w.heap.size w W) => HL.out.below h HL.out.pos)
  have hm1 := cell_alloc_lt
  have HS0 := Lib.hid ((bks_nil w).push #[.slice a g.length cap] 24 rfl)
  have HB0 := Lib.hid (bal (Below.refl _ w) (.cells #[.slice a g.length cap] 24))
  have HU := Lib.hid (fun (W : World) (h : Below w.heap.size w W) => sUses_ok W (hg.below h hg.pos) (hr.on hP h) (fun b hb => Nat.lt_of_lt_of_le (hP b hb) h.size) (by omega) hc)
  have HRE := Lib.hid (fun (W : World) (h : Below w.heap.size w W) => sReach_arg W f (hg.below h hg.pos) (hr.on hP h) (fun b hb => Nat.lt_of_lt_of_le (hP b hb) h.size) (by omega) hc hf)
  clear hg hr hP hb hc hf
  go_enter Tryz.func6, Tryz.ntmps6
  repeat (first | go_values | go_skip | go_guarded | go_step | go_upon)
  refine (small6_any _ (HL1.out _ HB0.out)).mono ?_
  rintro e w1 ⟨rfl, hb1⟩
  have HS1 := Lib.hid (HS0.out.below hb1)
  have HB1 := Lib.hid (HB0.out.trans (hb1.mono HB0.out.size))
  clear hb1
  obtain ⟨g0, qg⟩ := cells1 HS1.out.1
  dsimp only
  repeat (first | go_values | go_skip | go_guarded | go_step | go_upon)
  refine (HU.out _ HB1.out).mono ?_
  rintro e w2 ⟨u, rfl, _, hb2⟩
  have HS2 := Lib.hid (HS1.out.below hb2)
  have HB2 := Lib.hid (HB1.out.trans (hb2.mono HB1.out.size))
  clear hb2 g0 qg
  obtain ⟨g0, qg⟩ := cells1 HS2.out.1
  dsimp only
  repeat (first | go_values | go_skip | go_guarded | go_step | go_upon)
  refine (HRE.out _ HB2.out).mono ?_
  rintro e w3 ⟨⟨v3, rfl, hv3⟩, hb3⟩
  obtain ⟨et, ex, rfl⟩ : ∃ et ex, v3 = .iface et ex := by rcases hv3 with ⟨_, rfl⟩ | ⟨_, rfl⟩ <;> exact ⟨_, _, rfl⟩
  clear hv3
  dsimp only
  repeat (first | go_values | go_skip | go_guarded | go_step | go_upon)
  go_ret
  exact ⟨rfl, HB2.out.trans (hb3.mono HB2.out.size)⟩
theorem sclosed_any {g : List Rr} {v : Value} {P : Nat → Prop} (w : World) (hg : Laid w) (hr : RepGr w P g v) (hP : ∀ b, P b → b < w.heap.size) (hb : Rr.bulks g ≤ 1048576) (f : Int) (_ : (Lit.int .i64 f).wf = true) : Calls Tryz.prog 6 #[.agg #[v], .int .i64 f] w (Ans (.bool true) w) := by
  by_cases hc : CkOk g
  · by_cases hf : f < 0 ∨ (g.length : Int) ≤ f
    · exact sclosed_arg w hg hr hP hb f hc hf
    · obtain ⟨k, rfl⟩ : ∃ k : Nat, f = (k : Int) := ⟨f.toNat, by omega⟩
      exact sclosed_ok w hg hr hP hb hc k (by omega)
  · exact sclosed_no w hg hr hP hb f hc
end Go.Proofs.YtjlcoldnhbkcgaaGreatDoor
