/- The walk of ScopeAgain. -/
import Derived.Test.YtjlcoldnhbkcgaaGreatDoorSagP
import Derived.Test.YtjlcoldnhbkcgaaGreatDoorPruW
import Derived.Test.YtjlcoldnhbkcgaaGreatDoorHasW
import Derived.Test.YtjlcoldnhbkcgaaGreatDoorG38
namespace Go.Proofs.YtjlcoldnhbkcgaaGreatDoor
open Go.RowKit Go.Sort

set_option maxRecDepth 100000 in
set_option maxHeartbeats 12800000 in
theorem sagain_any {g : List Rr} {v : Value} {P : Nat → Prop} (w : World) (hg : Laid w) (hr : RepGr w P g v) (hP : ∀ b, P b → b < w.heap.size) (hb : Rr.bulks g ≤ 1048576) : Calls Tryz.prog 9 #[.agg #[v]] w (Ans (.bool true) w) := by
  obtain ⟨a, cap, rfl, hcap, _⟩ := hr.slice
  have HL := Lib.hid hg
  have HL1 := Lib.hid (fun (W : World) (h : Below w.heap.size w W) => HL.out.below h HL.out.pos)
  have hm1 := cell_alloc_lt
  have HS0 := Lib.hid ((bks_nil w).push #[.slice a g.length cap] 24 rfl)
  have HB0 := Lib.hid (bal (Below.refl _ w) (.cells #[.slice a g.length cap] 24))
  by_cases hc : CkOk g
  · have HX := Lib.hid (fun (W : World) (h : Below w.heap.size w W) => prune_ok W (hg.below h hg.pos) (hr.on hP h) (fun b hb => Nat.lt_of_lt_of_le (hP b hb) h.size) (by omega) hc)
    have HPD := Lib.hid (fun (us : List Nat) (h : SetL (Rch (rowsG g) 0) us) => pruned_of hc h)
    have HBK := Lib.hid hb
    clear hg hr hP hb hc
    go_enter Tryz.func9, Tryz.ntmps9
    repeat (first | go_values | go_skip | go_guarded | go_step | go_upon)
    refine (small6_any _ (HL1.out _ HB0.out)).mono ?_
    rintro e w1 ⟨rfl, hb1⟩
    have HS1 := Lib.hid (HS0.out.below hb1)
    have HB1 := Lib.hid (HB0.out.trans (hb1.mono HB0.out.size))
    clear hb1
    obtain ⟨g0, qg⟩ := cells1 HS1.out.1
    dsimp only
    repeat (first | go_values | go_skip | go_guarded | go_step | go_upon)
    refine (HX.out _ HB1.out).mono ?_
    rintro e w2 ⟨⟨pv, us, rfl, hset, hp⟩, hb2⟩
    have hpd := HPD.out us hset
    have hp2 := hp.mono (P' := fun b => b < w2.heap.size) (fun _ _ => rfl) (fun b hb => hb.2)
    obtain ⟨pa, pcap, rfl, hpc, _⟩ := hp.slice
    rw [prG_len] at hp2 ⊢
    have HS2 := Lib.hid ((HS1.out.below hb2).push #[.slice pa us.length pcap] 24 rfl)
    have HB2 := Lib.hid (bal (HB1.out.trans (hb2.mono HB1.out.size)) (.cells #[.slice pa us.length pcap] 24))
    have HP2 := Lib.hid (hp2.under (bal (Below.refl _ w2) (.cells #[.slice pa us.length pcap] 24)))
    have HPDD := Lib.hid hpd
    have HBP := Lib.hid (show Rr.bulks (prG g us) ≤ 1000000000 by have := hpd.bulk; have := HBK.out; omega)
    clear hb2 hset hp hp2 hpc g0 qg hpd
    obtain ⟨p0, qp⟩ := cells1 HS2.out.1
    dsimp only
    repeat (first | go_values | go_skip | go_guarded | go_step | go_upon)
    refine (prune_ok _ (HL1.out _ HB2.out) HP2.out (fun _ h => h) HBP.out HPDD.out.ck).mono ?_
    rintro e w3 ⟨⟨qv, us2, rfl, hset2, hq⟩, hb3⟩
    obtain rfl := hset2.det HPDD.out.all
    have hq2 := hq.mono (P' := fun b => b < w3.heap.size) (fun _ _ => rfl) (fun b hb => hb.2)
    have hlen : prG (prG g us) (List.range us.length) = prG g us := by
      have := prG_range (prG g us)
      rwa [prG_len] at this
    rw [hlen] at hq2 hq
    obtain ⟨qa, qcap, rfl, hqc, _⟩ := hq.slice
    rw [prG_len] at hq2 ⊢
    have HS3 := Lib.hid ((HS2.out.below hb3).push #[.slice qa us.length qcap] 24 rfl)
    have HB3 := Lib.hid (bal (HB2.out.trans (hb3.mono HB2.out.size)) (.cells #[.slice qa us.length qcap] 24))
    have HP3 := Lib.hid ((HP2.out.under hb3).under (bal (Below.refl _ w3) (.cells #[.slice qa us.length qcap] 24)))
    have HQ3 := Lib.hid (hq2.under (bal (Below.refl _ w3) (.cells #[.slice qa us.length qcap] 24)))
    clear hb3 hset2 hq hq2 hqc hlen p0 qp
    obtain ⟨q0, qq⟩ := cells1 HS3.out.1
    obtain ⟨p0, qp⟩ := cells1 HS3.out.2.1
    dsimp only
    repeat (first | go_values | go_skip | go_guarded | go_step | go_upon)
    refine (sReach_ok _ 0 (HL1.out _ HB3.out) HP3.out (fun _ h => h) HBP.out HPDD.out.ck (by rw [prG_len]; exact HPDD.out.pos)).mono ?_
    rintro e w4 ⟨⟨lv, us3, rfl, hset3, hrow⟩, hb4⟩
    obtain rfl := hset3.det HPDD.out.all
    obtain ⟨la, lcap, hlv, _, _⟩ := hrow.form
    rw [List.length_range] at hlv
    subst hlv
    have HS4 := Lib.hid (HS3.out.below hb4)
    have HB4 := Lib.hid (HB3.out.trans (hb4.mono HB3.out.size))
    have HP4 := Lib.hid (HP3.out.under hb4)
    have HQ4 := Lib.hid (HQ3.out.under hb4)
    clear hb4 hset3 hrow p0 qp q0 qq
    obtain ⟨q0, qq⟩ := cells1 HS4.out.1
    obtain ⟨p0, qp⟩ := cells1 HS4.out.2.1
    dsimp only
    repeat (first | go_values | go_skip | go_guarded | go_step | go_upon)
    refine (sameR_any true _ (SameR.refl true (prG g us)) HP4.out HQ4.out (fun _ h => h) (fun _ h => h)).mono ?_
    rintro e w5 ⟨rfl, hb5⟩
    have HS5 := Lib.hid (HS4.out.below hb5)
    have HB5 := Lib.hid (HB4.out.trans (hb5.mono HB4.out.size))
    have HP5 := Lib.hid (HP4.out.under hb5)
    clear hb5 p0 qp q0 qq
    obtain ⟨p0, qp⟩ := cells1 HS5.out.2.1
    obtain ⟨g0, qg⟩ := cells1 HS5.out.2.2.1
    have m1 : ((us.length : Int) == (us.length : Int)) = true := by simp
    have m2 : decide (us.length ≤ g.length) = true := decide_eq_true HPDD.out.len
    have HCK := Lib.hid (check_ok w5 (HL1.out _ HB5.out) HP5.out (fun _ h => h) HBP.out HPDD.out.ck)
    dsimp only
    repeat (first | go_values | go_skip | go_guarded | go_step | go_upon)
    refine HCK.out.mono ?_
    rintro e w6 ⟨rfl, hb6⟩
    dsimp only
    repeat (first | go_values | go_skip | go_guarded | go_step | go_upon)
    go_ret
    exact ⟨rfl, HB5.out.trans (hb6.mono HB5.out.size)⟩
  · have HX := Lib.hid (fun (W : World) (h : Below w.heap.size w W) => prune_no W (hg.below h hg.pos) (hr.on hP h) (fun b hb => Nat.lt_of_lt_of_le (hP b hb) h.size) (by omega) hc)
    clear hg hr hP hb hc
    go_enter Tryz.func9, Tryz.ntmps9
    repeat (first | go_values | go_skip | go_guarded | go_step | go_upon)
    refine (small6_any _ (HL1.out _ HB0.out)).mono ?_
    rintro e w1 ⟨rfl, hb1⟩
    have HS1 := Lib.hid (HS0.out.below hb1)
    have HB1 := Lib.hid (HB0.out.trans (hb1.mono HB0.out.size))
    clear hb1
    obtain ⟨g0, qg⟩ := cells1 HS1.out.1
    dsimp only
    repeat (first | go_values | go_skip | go_guarded | go_step | go_upon)
    refine (HX.out _ HB1.out).mono ?_
    rintro e w2 ⟨⟨v, rfl, hv⟩, hb2⟩
    have HB2 := Lib.hid (HB1.out.trans (hb2.mono HB1.out.size))
    obtain ⟨et, ex, rfl⟩ : ∃ et ex, v = .iface et ex := by rcases hv with ⟨_, rfl⟩ | ⟨_, rfl⟩ <;> exact ⟨_, _, rfl⟩
    clear hv hb2
    dsimp only
    repeat (first | go_values | go_skip | go_guarded | go_step | go_upon)
    go_ret
    exact ⟨rfl, bal HB2.out _⟩
end Go.Proofs.YtjlcoldnhbkcgaaGreatDoor
