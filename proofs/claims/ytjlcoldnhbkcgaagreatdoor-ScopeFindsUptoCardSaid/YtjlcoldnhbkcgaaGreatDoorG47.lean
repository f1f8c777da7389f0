/- The walk of ScopeFinds. -/
import Derived.Test.YtjlcoldnhbkcgaaGreatDoorG46
namespace Go.Proofs.YtjlcoldnhbkcgaaGreatDoor
open Go.RowKit Go.Sort

set_option maxRecDepth 100000 in
set_option maxHeartbeats 6400000 in
theorem sfinds_any {g : List Rr} {v : Value} {P : Nat → Prop} (w : World) (hg : Laid w) (hr : RepGr w P g v) (hP : ∀ b, P b → b < w.heap.size) (hb : Rr.bulks g ≤ 1048576) (s : ByteArray) (_ : s.size ≤ 140737488351232) (_ : s.size ≤ 1048576) : Calls Tryz.prog 8 #[.agg #[v], .string s] w (Ans (.bool true) w) := by
  obtain ⟨n, hn⟩ : ∃ n, n = g.length := ⟨_, rfl⟩
  obtain ⟨a, cap, rfl, hcap, _⟩ := hr.slice
  obtain ⟨nm, hnm⟩ : ∃ nm, s = mkS nm := ⟨s.data.toList, rfl⟩
  rw [hnm]
  have HL := Lib.hid hg
  have HL1 := Lib.hid (fun (W : World) (h : Below w.heap.size w W) => HL.out.below h HL.out.pos)
  have hm1 := cell_alloc_lt
  have HS0 := Lib.hid ((bks_nil w).push #[.slice a g.length cap] 24 rfl)
  have HB0 := Lib.hid (bal (Below.refl _ w) (.cells #[.slice a g.length cap] 24))
  have HF := Lib.hid (fun (m : List UInt8) (W : World) (h : Below w.heap.size w W) => find_any (nm := m) W (hr.on hP h) (fun b hb => Nat.lt_of_lt_of_le (hP b hb) h.size))
  by_cases hc : CkOk g
  · have HX := Lib.hid (fun (W : World) (h : Below w.heap.size w W) => check_ok W (hg.below h hg.pos) (hr.on hP h) (fun b hb => Nat.lt_of_lt_of_le (hP b hb) h.size) (by omega) hc)
    obtain ⟨hall, hn0, hn64⟩ := okG_all hc.okg
    have HAP := Lib.hid hc.2.1
    have HR := Lib.hid hr
    have HP := Lib.hid hP
    rw [← hn] at HX HR HF HS0 HB0 hcap hn64 ⊢
    have HN := Lib.hid hn
    clear hg hr hP hb hn hc hnm hall hn0
    go_enter Tryz.func8, Tryz.ntmps8
    repeat (first | go_values | go_skip | go_guarded | go_step | go_upon)
    refine (small6_any _ (HL1.out _ HB0.out)).mono ?_
    rintro e w1 ⟨rfl, hb1⟩
    have HS1 := Lib.hid (HS0.out.below hb1)
    have HB1 := Lib.hid (HB0.out.trans (hb1.mono HB0.out.size))
    clear hb1
    obtain ⟨g0, qg⟩ := cells1 HS1.out.1
    dsimp only
    repeat (first | go_values | go_skip | go_guarded | go_step | go_upon)
    refine (HX.out _ HB1.out).mono ?_
    rintro e w2 ⟨rfl, hb2⟩
    have HS2 := Lib.hid (HS1.out.below hb2)
    have HB2 := Lib.hid (HB1.out.trans (hb2.mono HB1.out.size))
    clear hb2 g0 qg
    obtain ⟨g0, qg⟩ := cells1 HS2.out.1
    dsimp only
    repeat (first | go_values | go_skip | go_guarded | go_step | go_upon)
    go_loopw [7, 8] (fun aa tt wr => ∃ j : Nat, tt = .int .i64 (j : Int) ∧ aa = .int .i64 (atV g nm j) ∧ j ≤ n ∧ Below w2.heap.size w2 wr) (fun _ tt _ => n - (intOf tt).toNat)
    case atStart => exact ⟨0, rfl, by rw [atV_zero], Nat.zero_le _, Below.refl _ _⟩
    case round =>
      obtain ⟨j, rfl, rfl, hj, hbr⟩ := hrel
      have HBR := Lib.hid hbr
      have HW := Lib.hid (HB2.out.trans (hbr.mono HB2.out.size))
      have hwz := HW.out.size
      have hz := hbr.size
      have HSR := Lib.hid (HS2.out.below hbr)
      clear hbr g0 qg
      obtain ⟨g0, qg⟩ := cells1 HSR.out.1
      by_cases hlt : j < n
      · have hlt2 : j < g.length := by rw [← HN.out]; exact hlt
        obtain ⟨y, hy⟩ : ∃ y, g[j]? = some y := ⟨g[j], List.getElem?_eq_getElem hlt2⟩
        rcases HR.out.parts with ⟨e, _⟩ | ⟨e, _⟩ | ⟨gg, o, cap', e, hgg, _, hcp, hmx, hr⟩
        · rw [e] at hlt2; simp at hlt2
        · rw [e] at hlt2; simp at hlt2
        · obtain rfl : a = some ⟨gg, o, none⟩ := by injection e
          have hrw := hr.mono (w' := wr) (P' := P) (fun b' hb' => HW.out.block b' (HP.out b' hb')) (fun _ h => h) hgg
          obtain ⟨k1, t1, x1, sa, sn, sc, p1, l1, eb, q0, _, a9, a0, a1, a2, a3, a4, a5, a6, a7, a8⟩ := hrw.get hy
          have d1 : decide ((j : Int) < n) = true := by simpa using hlt
          have hjn : (j : Int) < (n : Int) := by omega
          have k5 : IntKind.i64.wrap ((j : Int) + 1) = (j : Int) + 1 := by rw [IntKind.wrap_i64]; omega
          have qgg := Nat.lt_of_lt_of_le (HP.out gg hgg) hwz
          have hfd : fdV g y.name = (j : Int) := by rw [fdV, HAP.out j y hy]
          have m1 : ((j : Int) != (j : Int)) = false := by simp
          have HC := Lib.hid (fun (W : World) (h : Below wr.heap.size wr W) => HF.out y.name W (HW.out.trans (h.mono hwz)))
          rw [hfd] at HC
          have HCd := Lib.hid (fun (d : Nat) (os : Array Obj) => HC.out (grow (redrawn wr d) os) (below_regrown wr d os))
          by_cases hq : y.name = nm
          · have s1 : ((mkS y.name).toList == (mkS nm).toList) = true := by rw [hq]; simp
            have HA := Lib.hid (atV_hit HAP.out hy hq)
            clear e hr eb q0 hy hfd hq hrw
            repeat (first | go_values | go_skip | go_guarded | go_step | go_upon)
            have hG := grown_cell
            have g3_0 : w.heap.size < wr.heap.size := by omega
            have g3_1 : gg < wr.heap.size := by omega
            refine wp_region_qb (by kernel_rfl) (by kernel_rfl) ?_
            repeat (quiet_step (first | (with_reducible exact ans_quiet (HCd.out _ _))))
            refine wpQuiet_nil ?_
            intro w3 hb3
            clear hG
            obtain ⟨hc3, hf3⟩ := bcell hb3
            have hz3 := hb3.size
            try simp at hz3
            have q3_0 : w.heap.size < w3.heap.size := by omega
            have q3_1 : gg < w3.heap.size := by omega
            repeat (first | go_values | go_skip | go_guarded | go_step | go_upon)
            exact ⟨⟨j + 1, by go_num, by rw [HA.out], by omega, HBR.out.trans (hb3.mono hz)⟩, by simp [intOf]; omega⟩
          · have s1 : ((mkS y.name).toList == (mkS nm).toList) = false := by rw [Go.ByteArray.toList_eq, Go.ByteArray.toList_eq, mkS_data, mkS_data]; simpa using hq
            have HA := Lib.hid (atV_miss HAP.out hy hq)
            clear e hr eb q0 hy hfd hq hrw
            repeat (first | go_values | go_skip | go_guarded | go_step | go_upon)
            have hG := grown_cell
            have g3_0 : w.heap.size < wr.heap.size := by omega
            have g3_1 : gg < wr.heap.size := by omega
            refine wp_region_qb (by kernel_rfl) (by kernel_rfl) ?_
            repeat (quiet_step (first | (with_reducible exact ans_quiet (HCd.out _ _))))
            refine wpQuiet_nil ?_
            intro w3 hb3
            clear hG
            obtain ⟨hc3, hf3⟩ := bcell hb3
            have hz3 := hb3.size
            try simp at hz3
            have q3_0 : w.heap.size < w3.heap.size := by omega
            have q3_1 : gg < w3.heap.size := by omega
            repeat (first | go_values | go_skip | go_guarded | go_step | go_upon)
            exact ⟨⟨j + 1, by go_num, by rw [HA.out], by omega, HBR.out.trans (hb3.mono hz)⟩, by simp [intOf]; omega⟩
      · have d1 : decide ((j : Int) < n) = false := by simpa using hlt
        obtain rfl : j = n := by omega
        have hq : atV g nm j = fdV g nm := by rw [HN.out]; exact atV_end g nm
        rw [hq]
        obtain ⟨z, hz⟩ : ∃ z, z = fdV g nm := ⟨_, rfl⟩
        have HC := Lib.hid (fun (W : World) (h : Below w.heap.size w W) => HF.out nm W h)
        rw [← hz] at HC ⊢
        have m1 : (z == z) = true := by simp
        clear hlt hq hz
        repeat (first | go_values | go_skip | go_guarded | go_step | go_upon)
        refine (HC.out _ HW.out).mono ?_
        rintro e w3 ⟨rfl, hb3⟩
        dsimp only
        repeat (first | go_values | go_skip | go_guarded | go_step | go_upon)
        go_ret
        exact ⟨rfl, HW.out.trans (hb3.mono HW.out.size)⟩
  · have HX := Lib.hid (fun (W : World) (h : Below w.heap.size w W) => check_no W (hg.below h hg.pos) (hr.on hP h) (fun b hb => Nat.lt_of_lt_of_le (hP b hb) h.size) (by omega) hc)
    clear hg hr hP hb hn hc hnm
    go_enter Tryz.func8, Tryz.ntmps8
    repeat (first | go_values | go_skip | go_guarded | go_step | go_upon)
    refine (small6_any _ (HL1.out _ HB0.out)).mono ?_
    rintro e w1 ⟨rfl, hb1⟩
    have HS1 := Lib.hid (HS0.out.below hb1)
    have HB1 := Lib.hid (HB0.out.trans (hb1.mono HB0.out.size))
    clear hb1
    obtain ⟨g0, qg⟩ := cells1 HS1.out.1
    dsimp only
    repeat (first | go_values | go_skip | go_guarded | go_step | go_upon)
    refine (HX.out _ HB1.out).mono ?_
    rintro e w2 ⟨⟨v, rfl, hv⟩, hb2⟩
    have HB2 := Lib.hid (HB1.out.trans (hb2.mono HB1.out.size))
    rcases hv with ⟨c, rfl⟩ | ⟨p, rfl⟩
    · dsimp only
      repeat (first | go_values | go_skip | go_guarded | go_step | go_upon)
      go_ret
      exact ⟨rfl, HB2.out⟩
    · dsimp only
      repeat (first | go_values | go_skip | go_guarded | go_step | go_upon)
      go_ret
      exact ⟨rfl, HB2.out⟩
end Go.Proofs.YtjlcoldnhbkcgaaGreatDoor
