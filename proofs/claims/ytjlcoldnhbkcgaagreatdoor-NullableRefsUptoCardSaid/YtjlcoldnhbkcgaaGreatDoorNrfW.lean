/- The walk of NullableRefs. -/
import Derived.Test.YtjlcoldnhbkcgaaGreatDoorG44
import Derived.Test.YtjlcoldnhbkcgaaGreatDoorG38
import Derived.Test.YtjlcoldnhbkcgaaGreatDoorCopP
namespace Go.Proofs.YtjlcoldnhbkcgaaGreatDoor
open Go.RowKit Go.Sort

theorem outs_at (T : List UInt8 → Ot) {g : List Rr} {j : Nat} {y : Rr} (hy : g[j]? = some y) {i : Nat} (hi : i < 3) : (outs T g)[j * 3 + i]? = (otC (T y.name))[i]? := by
  induction g generalizing j with
  | nil => simp at hy
  | cons x g ih =>
    have e : outs T (x :: g) = otC (T x.name) ++ outs T g := rfl
    have h3 : (otC (T x.name)).length = 3 := rfl
    rw [e]
    cases j with
    | zero =>
      obtain rfl : x = y := by simpa using hy
      rw [List.getElem?_append_left (by omega)]
      congr 1
      omega
    | succ j =>
      rw [List.getElem?_append_right (by omega), h3, ← ih (by simpa using hy)]
      congr 1
      omega
/-- A Ref may be an expression. -/
theorem ref_fit {t : List UInt8} (ht : isName t = true) : Fit (.mk 5 t 0 [] 0) := by
  have hok : OkR ⟨[97], .mk 5 t 0 [] 0, 0⟩ := ⟨rfl, .ref ht⟩
  have hl : (txG [(⟨[97], .mk 5 t 0 [] 0, 0⟩ : Rr)]).length ≤ 8192 := by
    have := isName_len ht
    simp [txG, txU, txT, pcT, txs, Pc.tx]
    omega
  obtain ⟨hs, h⟩ := gram_deep (ok_okG hok) (fun r hr => by rw [List.mem_singleton.1 hr]; simp [dpT, dpL]) hl
  exact (res_fit (.inr (.inr ⟨ok_okG hok, hl, .inr ⟨hs, h, rfl⟩⟩)) _ List.mem_cons_self).2
theorem ref_exok {g : List Rr} (hc : CkOk g) {y : Rr} (hy : y ∈ g) : ExOk g (.mk 5 y.name 0 [] 0) := by
  have hn := ((okG_all hc.okg).1 y hy).1
  refine ⟨.ref hn, ref_fit hn, ?_, ?_⟩
  · have := isName_len hn
    simp [txT, pcT, txs, Pc.tx]
    omega
  · simp [rfT, rfL, known_name hc.2.1 hy]
set_option maxRecDepth 100000 in
set_option maxHeartbeats 12800000 in
theorem nrefs_any {g : List Rr} {v : Value} {P : Nat → Prop} (w : World) (hg : Laid w) (hr : RepGr w P g v) (hP : ∀ b, P b → b < w.heap.size) (hb : Rr.bulks g ≤ 1048576) : Calls Tryz.prog 3 #[.agg #[v]] w (Ans (.bool true) w) := by
  obtain ⟨n, hn⟩ : ∃ n, n = g.length := ⟨_, rfl⟩
  obtain ⟨a, cap, rfl, hcap, _⟩ := hr.slice
  have HL := Lib.hid hg
  have hr0 := hr.mono (P' := fun b => b < w.heap.size) (fun _ _ => rfl) hP
  have hm1 := cell_alloc_lt
  have HS0 := Lib.hid ((bks_nil w).push #[.slice a g.length cap] 24 rfl)
  have HB0 := Lib.hid (bal (Below.refl _ w) (.cells #[.slice a g.length cap] 24))
  by_cases hc : CkOk g
  · obtain ⟨hall, hn0, hn64⟩ := okG_all hc.okg
    have HRU := Lib.hid (fun (W : World) (h : Below w.heap.size w W) => nRules_ok W (hg.below h hg.pos) (hr.on hP h) (fun b hb => Nat.lt_of_lt_of_le (hP b hb) h.size) (by omega) hc)
    have HXR := Lib.hid (fun (T : List UInt8 → Ot) (hT : Least g T) (W : World) (h : Below w.heap.size w W) (y : Rr) (hy : y ∈ g) => show Calls Tryz.prog 13 #[.agg #[.slice a g.length cap], .agg #[.int .i64 5, .string (mkS y.name), .int .u64 0, .int .u64 0, .int .u64 0, .int .u64 0, .slice none 0 0, .int .i64 0]] W (fun e w' => e = .returned (.tuple #[.agg (otC (T y.name)).toArray, .nilIface]) ∧ Below W.heap.size W w') from by
      have h1 := xpr_ok W (hg.below h hg.pos) (hr0.under h) (RepA.mk (k := 5) (t := y.name) (c := 0) (p := 0) .null) (fun _ h => h) (by omega) (by have := isName_len (hall y hy).1; simp [Tr.bulk, Tr.bulks]; omega) hc (ref_exok hc hy)
      have e0 : trC 5 y.name 0 (.slice none 0 0) 0 = [.int .i64 5, .string (mkS y.name), .int .u64 0, .int .u64 0, .int .u64 0, .int .u64 0, .slice none 0 0, .int .i64 0] := by unfold trC; simp only [wd_zero']
      rw [e0] at h1
      refine h1.mono ?_
      rintro e w' ⟨T', hT', rfl, hb'⟩
      rw [hT'.det hT]
      exact ⟨by simp [exT], hb'⟩)
    have HX := Lib.hid (fun (T : List UInt8 → Ot) (_ : Least g T) => xpr_law hg hr0 (by omega))
    have HBD := Lib.hid (fun (y : Rr) (hy : y ∈ g) => show y.body.bulk ≤ 999999999 by have := bulk_rule hy; rw [Rr.bulk] at this; omega)
    have HR := Lib.hid hr
    have HP := Lib.hid hP
    rw [← hn] at HRU HXR HX HR HS0 HB0 hcap hn64 ⊢
    have HN := Lib.hid hn
    clear hg hr hP hb hn hr0 hall hn0 hc
    go_enter Tryz.func3, Tryz.ntmps3
    repeat (first | go_values | go_skip | go_guarded | go_step | go_upon)
    refine (small7_any _ (HL.out.below HB0.out HL.out.pos)).mono ?_
    rintro e w1 ⟨rfl, hb1⟩
    have HS1 := Lib.hid (HS0.out.below hb1)
    have HB1 := Lib.hid (HB0.out.trans (hb1.mono HB0.out.size))
    clear hb1
    obtain ⟨g0, qg⟩ := cells1 HS1.out.1
    dsimp only
    repeat (first | go_values | go_skip | go_guarded | go_step | go_upon)
    refine (HRU.out _ HB1.out).mono ?_
    rintro e w2 ⟨u, T, rfl, hT, hrow, hb2⟩
    obtain ⟨ua, uc, rfl⟩ := own_slice hrow
    have HS2 := Lib.hid (HS1.out.below hb2)
    have HB2 := Lib.hid (HB1.out.trans (hb2.mono HB1.out.size))
    have HO2 := Lib.hid hrow
    have HT := Lib.hid hT
    clear hb2 hrow hT g0 qg
    obtain ⟨g0, qg⟩ := cells1 HS2.out.1
    have d9 : ((n : Int) != (n : Int)) = false := by simp
    dsimp only
    repeat (first | go_values | go_skip | go_guarded | go_step | go_upon)
    go_loopw [6] (fun tt wr => ∃ j : Nat, tt = .int .i64 (j : Int) ∧ j ≤ n ∧ Below w2.heap.size w2 wr) (fun tt _ => n - (intOf tt).toNat)
    case atStart => exact ⟨0, rfl, Nat.zero_le _, Below.refl _ _⟩
    case round =>
      obtain ⟨j, rfl, hj, hbr⟩ := hrel
      have HBR := Lib.hid hbr
      have HW := Lib.hid (HB2.out.trans (hbr.mono HB2.out.size))
      have hwz := HW.out.size
      have hz := hbr.size
      have HSR := Lib.hid (HS2.out.below hbr)
      clear hbr g0 qg
      obtain ⟨g0, qg⟩ := cells1 HSR.out.1
      by_cases hlt : j < n
      · have hlt2 : j < g.length := by rw [← HN.out]; exact hlt
        obtain ⟨y, hy⟩ : ∃ y, g[j]? = some y := ⟨g[j], List.getElem?_eq_getElem hlt2⟩
        have hmem := List.mem_of_getElem? hy
        rcases HR.out.parts with ⟨e, _⟩ | ⟨e, _⟩ | ⟨gg, o, cap', e, hgg, _, hcp, hmx, hr⟩
        · rw [e] at hlt2; simp at hlt2
        · rw [e] at hlt2; simp at hlt2
        · obtain rfl : a = some ⟨gg, o, none⟩ := by injection e
          obtain ⟨k1, t1, x1, sa, sn, sc, p1, l1, eb, q0, _, a9, a0, a1, a2, a3, a4, a5, a6, a7, a8⟩ := (hr.mono (w' := wr) (P' := P) (fun b' hb' => HW.out.block b' (HP.out b' hb')) (fun _ h => h) hgg).get hy
          have d1 : decide ((j : Int) < n) = true := by simpa using hlt
          have hjn : (j : Int) < (n : Int) := by omega
          have k5 : IntKind.i64.wrap ((j : Int) + 1) = (j : Int) + 1 := by rw [IntKind.wrap_i64]; omega
          have qgg := Nat.lt_of_lt_of_le (HP.out gg hgg) hwz
          have hO := owns_below HO2.out HBR.out
          obtain ⟨gu, uc2, hu, hgu, hgu2⟩ := hO.form (by omega)
          obtain ⟨rfl, rfl⟩ : ua = some ⟨gu, 0, none⟩ ∧ uc = uc2 := by injection hu with h1 _ h2; exact ⟨h1, h2⟩
          have c0 := (hO.cellAt (j * 3 + 0) (by omega)).trans (outs_at T hy (i := 0) (by decide))
          have c1 := (hO.cellAt (j * 3 + 1) (by omega)).trans (outs_at T hy (i := 1) (by decide))
          have c2 := (hO.cellAt (j * 3 + 2) (by omega)).trans (outs_at T hy (i := 2) (by decide))
          have HXRy := Lib.hid (fun (W : World) (h : Below wr.heap.size wr W) => HXR.out T HT.out W (HW.out.trans (h.mono hwz)) y hmem)
          have HXB := Lib.hid (fun (W : World) (h : Below wr.heap.size wr W) => HX.out T HT.out W (HW.out.trans (h.mono hwz)) y.body _ (q0.mono (w' := W) (P' := fun b => b < W.heap.size) (fun b hb => h.block b (Nat.lt_of_lt_of_le (HP.out b hb) hwz)) (fun b hb => Nat.lt_of_lt_of_le (Nat.lt_of_lt_of_le (HP.out b hb) hwz) h.size)) (HBD.out y hmem))
          have HEQ := Lib.hid (fun (o : Ot) (h : XpR g y.body o .nilIface) => show o = T y.name from (h.det HT.out).trans (HT.out.1 y hmem))
          obtain ⟨o1, ho1⟩ : ∃ o1, o1 = T y.name := ⟨_, rfl⟩
          rw [← ho1] at c0 c1 c2 HXRy HEQ
          clear e hr eb q0 hy hmem hO hu ho1
          obtain ⟨b1, b2, b3⟩ := o1
          have c0' : wr.cell? ⟨gu, j * 3, none⟩ = some (.bool b1) := c0
          have c1' : wr.cell? ⟨gu, j * 3 + 1, none⟩ = some (.bool b2) := c1
          have c2' : wr.cell? ⟨gu, j * 3 + 2, none⟩ = some (.bool b3) := c2
          clear c0 c1 c2
          have f7 := guard_out
          have f8 : ∀ w', (Op.equalIn 10000 32 (.agg #[.bool b1, .bool b2, .bool b3]) (.agg #[.bool b1, .bool b2, .bool b3])).run Tryz.prog w' = .ok true w' := fun w' => by have := equal_ot w' ⟨b1, b2, b3⟩ ⟨b1, b2, b3⟩; rw [decide_eq_true rfl] at this; exact this
          dsimp only [trC, otC] at HXRy HXB
          repeat (first | go_values | go_skip | go_guarded | go_step | go_upon)
          have hm2 := frozen_alloc_lt
          have hm3 := cell_set_lt
          have hm4 := cell_set_gt
          go_cut [7, 8] from 47 to 59 (fun s7 s8 wx => ∃ bx, s7 = .pointer (some ⟨bx, 0, none⟩) ∧ s8 = .nilIface ∧ Hid (Below wr.heap.size wr wx) ∧ Hid (wx.heap[bx]? = some (.cells #[.bool b1, .bool b2, .bool b3] 32 (0, 0))))
          case first =>
            go_region_with (first | (go_at_call 13; refine (HXRy.out _ (by repeat (first | exact Below.refl _ _ | assumption | refine bdr ?_ | refine bal ?_ _))).mono ?_; rintro e w3 ⟨rfl, hb3⟩; have HB3 := Lib.hid hb3; obtain ⟨hc3, hf3⟩ := bcell hb3; have hz3 := hb3.size; simp at hz3; try have q3 : wr.heap.size < w3.heap.size := by omega; clear hb3; try dsimp only))
            all_goals
              repeat (first | go_values | go_skip | go_guarded | go_step | go_upon)
              go_meet
              have hb3 := HB3.out
              refine ⟨_, rfl, rfl, Lib.hid (by repeat (first | exact Below.refl _ _ | assumption | refine bal ?_ _ | refine bdr ?_ | refine bdrn ?_ _ | (refine bset ?_ (by first | exact Nat.le_refl _ | (simp; done) | (simp; omega) | omega) _) | refine bstep ?_ (by assumption))), Lib.hid ?_⟩
              first
              | exact heap_alloc_new _ _
              | exact Obk.set (b := wr.heap.size) (o := ot0) ((hb3.block _ (by simp)).trans (heap_alloc_new wr _)) b1 b2 b3
          case rest =>
            obtain ⟨bx, rfl, rfl, HBX, HXX⟩ := hcut
            have HBXc := HBX.out
            have hzx := HBXc.size
            have b0 := (HBXc.cell (p := ⟨gg, o + j * 10 + 1, none⟩) qgg).trans a0
            have b1' := (HBXc.cell (p := ⟨gg, o + j * 10 + 1 + 1, none⟩) qgg).trans a1
            have b2' := (HBXc.cell (p := ⟨gg, o + j * 10 + 1 + 2, none⟩) qgg).trans a2
            have b3' := (HBXc.cell (p := ⟨gg, o + j * 10 + 1 + 3, none⟩) qgg).trans a3
            have b4 := (HBXc.cell (p := ⟨gg, o + j * 10 + 1 + 4, none⟩) qgg).trans a4
            have b5 := (HBXc.cell (p := ⟨gg, o + j * 10 + 1 + 5, none⟩) qgg).trans a5
            have b6 := (HBXc.cell (p := ⟨gg, o + j * 10 + 1 + 6, none⟩) qgg).trans a6
            have b7 := (HBXc.cell (p := ⟨gg, o + j * 10 + 1 + 7, none⟩) qgg).trans a7
            have gx := (HBXc.cell (p := ⟨w.heap.size, 0, none⟩) qg).trans g0
            have HXB2 := Lib.hid (fun (W : World) (h : Below wc.heap.size wc W) => HXB.out W (HBXc.trans (h.mono hzx)))
            have qgx : w.heap.size < wc.heap.size := by omega
            have qggx : gg < wc.heap.size := by omega
            clear HBXc a0 a1 a2 a3 a4 a5 a6 a7 a8 a9 g0
            repeat (first | go_values | go_skip | go_guarded | go_step | go_upon)
            go_cut [9, 10] from 59 to 70 (fun s9 s10 wy => ∃ (by_ : Nat) (z : Ot), s9 = .pointer (some ⟨by_, 0, none⟩) ∧ Hid (XpR g y.body z s10) ∧ Hid (Below wc.heap.size wc wy) ∧ Hid (wy.heap[by_]? = some (.cells #[.bool z.z, .bool z.s, .bool z.f] 32 (0, 0))))
            case first =>
              go_region_with (first | (go_at_call 13; refine (HXB2.out _ (by repeat (first | exact Below.refl _ _ | assumption | refine bdr ?_ | refine bal ?_ _))).mono ?_; rintro e w3 ⟨⟨⟨z1, z2, z3⟩, v4, rfl, hx4⟩, hb3⟩; have HB3 := Lib.hid hb3; have HX4 := Lib.hid hx4; obtain ⟨hc3, hf3⟩ := bcell hb3; have hz3 := hb3.size; simp at hz3; try have q3 : wc.heap.size < w3.heap.size := by omega; clear hb3 hx4; try dsimp only [otC]))
              all_goals
                repeat (first | go_values | go_skip | go_guarded | go_step | go_upon)
                go_meet
                have hb3 := HB3.out
                refine ⟨_, ⟨z1, z2, z3⟩, rfl, HX4, Lib.hid (by repeat (first | exact Below.refl _ _ | assumption | refine bal ?_ _ | refine bdr ?_ | refine bdrn ?_ _ | (refine bset ?_ (by first | exact Nat.le_refl _ | (simp; done) | (simp; omega) | omega) _) | refine bstep ?_ (by assumption))), Lib.hid ?_⟩
                first
                | exact heap_alloc_new _ _
                | exact Obk.set (b := wc.heap.size) (o := ot0) ((hb3.block _ (by simp)).trans (heap_alloc_new wc _)) z1 z2 z3
            case rest =>
              obtain ⟨by_, ⟨z1, z2, z3⟩, rfl, HX4, HBY, HYY⟩ := hcut
              have hxx := (HBY.out.block bx (Array.getElem?_eq_some_iff.1 HXX.out).1).trans HXX.out
              obtain ⟨r0, r1, r2, qr⟩ := cells3 hxx
              obtain ⟨t0, t1, t2, qt⟩ := cells3 HYY.out
              have hby := HBX.out.trans (HBY.out.mono hzx)
              have u0 := (hby.cell (p := ⟨gu, j * 3, none⟩) hgu2).trans c0'
              have u1 := (hby.cell (p := ⟨gu, j * 3 + 1, none⟩) hgu2).trans c1'
              have u2 := (hby.cell (p := ⟨gu, j * 3 + 2, none⟩) hgu2).trans c2'
              have HBE := Lib.hid (HBR.out.trans (hby.mono hz))
              clear hxx hby b0 b1' b2' b3' b4 b5 b6 b7 gx c0' c1' c2' hm2 hm3 hm4
              rcases HX4.out.forms.symm with ⟨et, ex, rfl⟩ | ⟨rfl, _⟩
              · repeat (first | go_values | go_skip | go_guarded | go_step | go_upon)
                go_region
                all_goals
                  repeat (first | go_values | go_skip | go_guarded | go_step | go_upon)
                  exact ⟨⟨j + 1, by go_num, by omega, bdr HBE.out⟩, by simp [intOf]; omega⟩
              · have hzz := HEQ.out _ HX4.out
                injection hzz with hz1 hz2 hz3
                subst hz1 hz2 hz3
                repeat (first | go_values | go_skip | go_guarded | go_step | go_upon)
                go_region
                all_goals
                  repeat (first | go_values | go_skip | go_guarded | go_step | go_upon)
                  exact ⟨⟨j + 1, by go_num, by omega, bdr HBE.out⟩, by simp [intOf]; omega⟩
      · have d1 : decide ((j : Int) < n) = false := by simpa using hlt
        obtain rfl : j = n := by omega
        clear hlt
        repeat (first | go_values | go_skip | go_guarded | go_step | go_upon)
        go_ret
        exact ⟨rfl, HW.out⟩
  · have HRU := Lib.hid (fun (W : World) (h : Below w.heap.size w W) => nRules_no W (hg.below h hg.pos) (hr.on hP h) (fun b hb => Nat.lt_of_lt_of_le (hP b hb) h.size) (by omega) hc)
    clear hg hr hP hb hn hr0 hc
    go_enter Tryz.func3, Tryz.ntmps3
    repeat (first | go_values | go_skip | go_guarded | go_step | go_upon)
    refine (small7_any _ (HL.out.below HB0.out HL.out.pos)).mono ?_
    rintro e w1 ⟨rfl, hb1⟩
    have HS1 := Lib.hid (HS0.out.below hb1)
    have HB1 := Lib.hid (HB0.out.trans (hb1.mono HB0.out.size))
    clear hb1
    obtain ⟨g0, qg⟩ := cells1 HS1.out.1
    dsimp only
    repeat (first | go_values | go_skip | go_guarded | go_step | go_upon)
    refine (HRU.out _ HB1.out).mono ?_
    rintro e w2 ⟨⟨v, rfl, hv⟩, hb2⟩
    have HB2 := Lib.hid (HB1.out.trans (hb2.mono HB1.out.size))
    have HS2 := Lib.hid (HS1.out.below hb2)
    clear hb2 g0 qg
    obtain ⟨g0, qg⟩ := cells1 HS2.out.1
    rcases hv with ⟨c, rfl⟩ | ⟨p, rfl⟩
    · dsimp only
      repeat (first | go_values | go_skip | go_guarded | go_step | go_upon)
      go_ret
      exact ⟨rfl, HB2.out⟩
    · dsimp only
      repeat (first | go_values | go_skip | go_guarded | go_step | go_upon)
      go_ret
      exact ⟨rfl, HB2.out⟩
end Go.Proofs.YtjlcoldnhbkcgaaGreatDoor
