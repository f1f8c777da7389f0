/- The walk of NullableRows, where the first of the two may not come to nothing. -/
import Derived.Test.YtjlcoldnhbkcgaaGreatDoorNrwP
namespace Go.Proofs.YtjlcoldnhbkcgaaGreatDoor
open Go.RowKit Go.Sort

set_option maxRecDepth 100000 in
set_option maxHeartbeats 12800000 in
theorem nrows_00 {g : List Rr} {v : Value} {n m : Tr} {cs ds : List Value} {P P2 P3 : Nat → Prop} (w : World) (hg : Laid w) (hr : RepGr w P g v) (hP : ∀ b, P b → b < w.heap.size) (hb : Rr.bulks g ≤ 1048576) (hn : RepA w P2 n cs) (hP2 : ∀ b, P2 b → b < w.heap.size) (hbn : n.bulk ≤ 1048576) (hm : RepA w P3 m ds) (hP3 : ∀ b, P3 b → b < w.heap.size) (hbm : m.bulk ≤ 1048576) (a3 : Bool) (hoa : ∀ o, XpR g n o .nilIface → o = ⟨false, false, a3⟩) : Calls Tryz.prog 4 #[.agg #[v], .agg cs.toArray, .agg ds.toArray] w (Ans (.bool true) w) := by
  obtain ⟨ga, gcap, rfl, _⟩ := hr.slice
  have hn0 := hn.mono (P' := fun b => b < w.heap.size) (fun _ _ => rfl) hP2
  have hm0 := hm.mono (P' := fun b => b < w.heap.size) (fun _ _ => rfl) hP3
  obtain ⟨k, t, x, u, l, p, hnn, rfl, hl⟩ := hn.form
  obtain ⟨sa, cap, rfl, _⟩ := hl.slice
  obtain ⟨k2, t2, x2, u2, l2, p2, hmm, rfl, hl2⟩ := hm.form
  obtain ⟨sa2, cap2, rfl, _⟩ := hl2.slice
  have HL := Lib.hid hg
  have HN := Lib.hid (fun (W : World) (h : Below w.heap.size w W) => hn0.under h)
  have HM := Lib.hid (fun (W : World) (h : Below w.heap.size w W) => hm0.under h)
  have HX := Lib.hid (xpr_law hg (hr.mono (P' := fun b => b < w.heap.size) (fun _ _ => rfl) hP) (by omega))
  have HOA := Lib.hid hoa
  have HBN := Lib.hid hbn
  have HBM := Lib.hid hbm
  have hm1 := cell_alloc_lt
  have f7 := guard_out
  have f8 := equal_out
  have HS0 := Lib.hid ((((bks_nil w).push #[.slice ga g.length gcap] 24 rfl).push #[.int .i64 k, .string (mkS t), .int .u64 (wd x 0), .int .u64 (wd x 1), .int .u64 (wd x 2), .int .u64 (wd x 3), .slice sa l.length cap, .int .i64 p] 40 (b := w.heap.size + 1) (by simp)).push #[.int .i64 k2, .string (mkS t2), .int .u64 (wd x2 0), .int .u64 (wd x2 1), .int .u64 (wd x2 2), .int .u64 (wd x2 3), .slice sa2 l2.length cap2, .int .i64 p2] 40 (b := w.heap.size + 2) (by simp))
  have HB0 := Lib.hid (bal (bal (bal (Below.refl _ w) (.cells #[.slice ga g.length gcap] 24)) (.cells #[.int .i64 k, .string (mkS t), .int .u64 (wd x 0), .int .u64 (wd x 1), .int .u64 (wd x 2), .int .u64 (wd x 3), .slice sa l.length cap, .int .i64 p] 40)) (.cells #[.int .i64 k2, .string (mkS t2), .int .u64 (wd x2 0), .int .u64 (wd x2 1), .int .u64 (wd x2 2), .int .u64 (wd x2 3), .slice sa2 l2.length cap2, .int .i64 p2] 40))
  clear hoa hg hr hP hb hn hP2 hbn hn0 hl hm hP3 hbm hm0 hl2 hnn hmm
  dsimp only [trC] at HN HM ⊢
  go_enter Tryz.func4, Tryz.ntmps4
  repeat (first | go_values | go_skip | go_guarded | go_step | go_upon)
  refine (small7_any _ (HL.out.below HB0.out HL.out.pos)).mono ?_
  rintro e w1 ⟨rfl, hb1⟩
  have HS1 := Lib.hid (HS0.out.below hb1)
  have HB1 := Lib.hid (HB0.out.trans (hb1.mono HB0.out.size))
  clear hb1
  obtain ⟨e0, e1, e2, e3, e4, e5, e6, e7, qn⟩ := cells8 HS1.out.2.1
  obtain ⟨g0, qg⟩ := cells1 HS1.out.2.2.1
  dsimp only
  repeat (first | go_values | go_skip | go_guarded | go_step | go_upon)
  refine (HX.out _ HB1.out n _ (HN.out _ HB1.out) (by have := HBN.out; omega)).mono ?_
  clear e0 e1 e2 e3 e4 e5 e6 e7 qn g0 qg
  rintro e w2 ⟨⟨⟨a1, a2, a4⟩, v1, rfl, hx1⟩, hb2⟩
  have HS2 := Lib.hid ((HS1.out.below hb2).push #[.bool a1, .bool a2, .bool a4] 32 rfl)
  have HB2 := Lib.hid (bal (HB1.out.trans (hb2.mono HB1.out.size)) (.cells #[.bool a1, .bool a2, .bool a4] 32))
  have X1 := Lib.hid hx1
  clear hb2 hx1
  obtain ⟨e0, e1, e2, e3, e4, e5, e6, e7, qn⟩ := cells8 HS2.out.2.1
  obtain ⟨g0, qg⟩ := cells1 HS2.out.2.2.2.1
  dsimp only [otC]
  repeat (first | go_values | go_skip | go_guarded | go_step | go_upon)
  refine (HX.out _ HB2.out m _ (HM.out _ HB2.out) (by have := HBM.out; omega)).mono ?_
  clear e0 e1 e2 e3 e4 e5 e6 e7 qn g0 qg
  rintro e w3 ⟨⟨⟨b1, b2, b3⟩, v2, rfl, hx2⟩, hb3⟩
  have HS3 := Lib.hid ((HS2.out.below hb3).push #[.bool b1, .bool b2, .bool b3] 32 rfl)
  have HB3 := Lib.hid (bal (HB2.out.trans (hb3.mono HB2.out.size)) (.cells #[.bool b1, .bool b2, .bool b3] 32))
  have X2 := Lib.hid hx2
  clear hb3 hx2
  have HS4 := Lib.hid (HS3.out.push #[.int .i64 k, .string (mkS t), .int .u64 (wd x 0), .int .u64 (wd x 1), .int .u64 (wd x 2), .int .u64 (wd x 3), .slice sa l.length cap, .int .i64 p, .int .i64 k2, .string (mkS t2), .int .u64 (wd x2 0), .int .u64 (wd x2 1), .int .u64 (wd x2 2), .int .u64 (wd x2 3), .slice sa2 l2.length cap2, .int .i64 p2] 40 (b := w3.heap.size + 1) (by simp))
  have HB4 := Lib.hid (bal HB3.out (.cells #[.int .i64 k, .string (mkS t), .int .u64 (wd x 0), .int .u64 (wd x 1), .int .u64 (wd x 2), .int .u64 (wd x 3), .slice sa l.length cap, .int .i64 p, .int .i64 k2, .string (mkS t2), .int .u64 (wd x2 0), .int .u64 (wd x2 1), .int .u64 (wd x2 2), .int .u64 (wd x2 3), .slice sa2 l2.length cap2, .int .i64 p2] 40))
  obtain ⟨e0, e1, e2, e3, e4, e5, e6, e7, qn⟩ := cells8 HS3.out.2.2.1
  obtain ⟨n0, n1, n2, n3, n4, n5, n6, n7, qm⟩ := cells8 HS3.out.2.2.2.1
  obtain ⟨g0, qg⟩ := cells1 HS3.out.2.2.2.2.1
  dsimp only [otC]
  repeat (first | go_values | go_skip | go_guarded | go_step | go_upon)
  refine (HX.out _ HB4.out (.mk 6 [] 0 [n, m] 0) (ndK 6 (w3.heap.size + 1) 2) (rep_two 6 HS4.out.1 (HN.out _ HB4.out) (HM.out _ HB4.out)) (by have := HBN.out; have := HBM.out; have := bulk_two (n := n) (m := m) (k := 6); omega)).mono ?_
  clear e0 e1 e2 e3 e4 e5 e6 e7 qn g0 qg n0 n1 n2 n3 n4 n5 n6 n7 qm
  rintro e w4 ⟨⟨⟨c1, c2, c3⟩, v3, rfl, hx3⟩, hb4⟩
  have HS5 := Lib.hid ((HS4.out.below hb4).push #[.bool c1, .bool c2, .bool c3] 32 rfl)
  have HB5 := Lib.hid (bal (HB4.out.trans (hb4.mono HB4.out.size)) (.cells #[.bool c1, .bool c2, .bool c3] 32))
  have X3 := Lib.hid hx3
  clear hb4 hx3
  have HS6 := Lib.hid (HS5.out.push #[.int .i64 k, .string (mkS t), .int .u64 (wd x 0), .int .u64 (wd x 1), .int .u64 (wd x 2), .int .u64 (wd x 3), .slice sa l.length cap, .int .i64 p, .int .i64 k2, .string (mkS t2), .int .u64 (wd x2 0), .int .u64 (wd x2 1), .int .u64 (wd x2 2), .int .u64 (wd x2 3), .slice sa2 l2.length cap2, .int .i64 p2] 40 (b := w4.heap.size + 1) (by simp))
  have HB6 := Lib.hid (bal HB5.out (.cells #[.int .i64 k, .string (mkS t), .int .u64 (wd x 0), .int .u64 (wd x 1), .int .u64 (wd x 2), .int .u64 (wd x 3), .slice sa l.length cap, .int .i64 p, .int .i64 k2, .string (mkS t2), .int .u64 (wd x2 0), .int .u64 (wd x2 1), .int .u64 (wd x2 2), .int .u64 (wd x2 3), .slice sa2 l2.length cap2, .int .i64 p2] 40))
  obtain ⟨e0, e1, e2, e3, e4, e5, e6, e7, qn⟩ := cells8 HS5.out.2.2.2.2.1
  obtain ⟨n0, n1, n2, n3, n4, n5, n6, n7, qm⟩ := cells8 HS5.out.2.2.2.2.2.1
  obtain ⟨g0, qg⟩ := cells1 HS5.out.2.2.2.2.2.2.1
  dsimp only [otC]
  repeat (first | go_values | go_skip | go_guarded | go_step | go_upon)
  refine (HX.out _ HB6.out (.mk 7 [] 0 [n, m] 0) (ndK 7 (w4.heap.size + 1) 2) (rep_two 7 HS6.out.1 (HN.out _ HB6.out) (HM.out _ HB6.out)) (by have := HBN.out; have := HBM.out; have := bulk_two (n := n) (m := m) (k := 7); omega)).mono ?_
  clear e0 e1 e2 e3 e4 e5 e6 e7 qn g0 qg n0 n1 n2 n3 n4 n5 n6 n7 qm
  rintro e w5 ⟨⟨⟨d1, d2, d3⟩, v4, rfl, hx4⟩, hb5⟩
  have HS7 := Lib.hid (HS6.out.below hb5)
  have HB7 := Lib.hid (HB6.out.trans (hb5.mono HB6.out.size))
  have X4 := Lib.hid hx4
  clear hb5 hx4
  obtain ⟨l0, l1, l2, ql⟩ := cells3 HS7.out.2.1
  obtain ⟨m0, m1, m2, qm⟩ := cells3 HS7.out.2.2.2.1
  obtain ⟨o0, o1, o2, qo⟩ := cells3 HS7.out.2.2.2.2.1
  rcases X1.out.forms.symm with ⟨et, ex, rfl⟩ | ⟨rfl, T, hT⟩
  · dsimp only [otC]
    repeat (first | go_values | go_skip | go_guarded | go_step | go_upon)
    go_ret
    exact ⟨rfl, bal HB7.out _⟩
  have HT := Lib.hid hT
  clear hT
  rcases X2.out.forms.symm with ⟨et, ex, rfl⟩ | ⟨rfl, _⟩
  · dsimp only [otC]
    repeat (first | go_values | go_skip | go_guarded | go_step | go_upon)
    go_ret
    exact ⟨rfl, bal HB7.out _⟩
  rcases X3.out.forms.symm with ⟨et, ex, rfl⟩ | ⟨rfl, _⟩
  · dsimp only [otC]
    repeat (first | go_values | go_skip | go_guarded | go_step | go_upon)
    go_ret
    exact ⟨rfl, bal HB7.out _⟩
  rcases X4.out.forms.symm with ⟨et, ex, rfl⟩ | ⟨rfl, _⟩
  · dsimp only [otC]
    repeat (first | go_values | go_skip | go_guarded | go_step | go_upon)
    go_ret
    exact ⟨rfl, bal HB7.out _⟩
  have z1 := X1.out.det HT.out
  have z2 := X2.out.det HT.out
  have z3 : (⟨c1, c2, c3⟩ : Ot) = otB (otB ⟨true, false, false⟩ (exT T n)) (exT T m) := by rw [X3.out.det HT.out]; simp [exT, exS]
  have z4 : (⟨d1, d2, d3⟩ : Ot) = otI (otI ⟨false, false, true⟩ (exT T n)) (exT T m) := by rw [X4.out.det HT.out]; simp [exT, exO]
  rw [← z1, ← z2] at z3 z4
  clear z1 z2
  have z0 := HOA.out _ X1.out
  injection z0 with z01 z02 z03
  subst z01 z02 z03
  have HS9 := Lib.hid (((HS7.out.push #[.bool d1, .bool d2, .bool d3] 32 rfl).push #[.bool c1, .bool c2, .bool c3] 32 (b := w5.heap.size + 1) (by simp)).push #[.bool d1, .bool d2, .bool d3] 32 (b := w5.heap.size + 1 + 1) (by simp))
  obtain ⟨r0, r1, r2, qr⟩ := cells3 HS9.out.1
  obtain ⟨s0, s1, s2, qs⟩ := cells3 HS9.out.2.1
  obtain ⟨t0, t1, t2, qt⟩ := cells3 HS9.out.2.2.1
  obtain ⟨y0, y1, y2, qy⟩ := cells3 HS9.out.2.2.2.2.1
  have HB9 := Lib.hid (bal (bal (bal HB7.out (.cells #[.bool d1, .bool d2, .bool d3] 32)) (.cells #[.bool c1, .bool c2, .bool c3] 32)) (.cells #[.bool d1, .bool d2, .bool d3] 32))
  cases a4 <;> cases b1 <;> cases b2 <;> cases b3
  all_goals
    simp [otB, otI] at z3 z4
    obtain ⟨rfl, rfl, rfl⟩ := z3
    obtain ⟨rfl, rfl, rfl⟩ := z4
    dsimp only [otC]
    repeat (first | go_values | go_skip | go_guarded | go_step | go_upon)
    go_ret
    exact ⟨rfl, HB9.out⟩
set_option maxRecDepth 100000 in
set_option maxHeartbeats 12800000 in
theorem nrows_01 {g : List Rr} {v : Value} {n m : Tr} {cs ds : List Value} {P P2 P3 : Nat → Prop} (w : World) (hg : Laid w) (hr : RepGr w P g v) (hP : ∀ b, P b → b < w.heap.size) (hb : Rr.bulks g ≤ 1048576) (hn : RepA w P2 n cs) (hP2 : ∀ b, P2 b → b < w.heap.size) (hbn : n.bulk ≤ 1048576) (hm : RepA w P3 m ds) (hP3 : ∀ b, P3 b → b < w.heap.size) (hbm : m.bulk ≤ 1048576) (a3 : Bool) (hoa : ∀ o, XpR g n o .nilIface → o = ⟨false, true, a3⟩) : Calls Tryz.prog 4 #[.agg #[v], .agg cs.toArray, .agg ds.toArray] w (Ans (.bool true) w) := by
  obtain ⟨ga, gcap, rfl, _⟩ := hr.slice
  have hn0 := hn.mono (P' := fun b => b < w.heap.size) (fun _ _ => rfl) hP2
  have hm0 := hm.mono (P' := fun b => b < w.heap.size) (fun _ _ => rfl) hP3
  obtain ⟨k, t, x, u, l, p, hnn, rfl, hl⟩ := hn.form
  obtain ⟨sa, cap, rfl, _⟩ := hl.slice
  obtain ⟨k2, t2, x2, u2, l2, p2, hmm, rfl, hl2⟩ := hm.form
  obtain ⟨sa2, cap2, rfl, _⟩ := hl2.slice
  have HL := Lib.hid hg
  have HN := Lib.hid (fun (W : World) (h : Below w.heap.size w W) => hn0.under h)
  have HM := Lib.hid (fun (W : World) (h : Below w.heap.size w W) => hm0.under h)
  have HX := Lib.hid (xpr_law hg (hr.mono (P' := fun b => b < w.heap.size) (fun _ _ => rfl) hP) (by omega))
  have HOA := Lib.hid hoa
  have HBN := Lib.hid hbn
  have HBM := Lib.hid hbm
  have hm1 := cell_alloc_lt
  have f7 := guard_out
  have f8 := equal_out
  have HS0 := Lib.hid ((((bks_nil w).push #[.slice ga g.length gcap] 24 rfl).push #[.int .i64 k, .string (mkS t), .int .u64 (wd x 0), .int .u64 (wd x 1), .int .u64 (wd x 2), .int .u64 (wd x 3), .slice sa l.length cap, .int .i64 p] 40 (b := w.heap.size + 1) (by simp)).push #[.int .i64 k2, .string (mkS t2), .int .u64 (wd x2 0), .int .u64 (wd x2 1), .int .u64 (wd x2 2), .int .u64 (wd x2 3), .slice sa2 l2.length cap2, .int .i64 p2] 40 (b := w.heap.size + 2) (by simp))
  have HB0 := Lib.hid (bal (bal (bal (Below.refl _ w) (.cells #[.slice ga g.length gcap] 24)) (.cells #[.int .i64 k, .string (mkS t), .int .u64 (wd x 0), .int .u64 (wd x 1), .int .u64 (wd x 2), .int .u64 (wd x 3), .slice sa l.length cap, .int .i64 p] 40)) (.cells #[.int .i64 k2, .string (mkS t2), .int .u64 (wd x2 0), .int .u64 (wd x2 1), .int .u64 (wd x2 2), .int .u64 (wd x2 3), .slice sa2 l2.length cap2, .int .i64 p2] 40))
  clear hoa hg hr hP hb hn hP2 hbn hn0 hl hm hP3 hbm hm0 hl2 hnn hmm
  dsimp only [trC] at HN HM ⊢
  go_enter Tryz.func4, Tryz.ntmps4
  repeat (first | go_values | go_skip | go_guarded | go_step | go_upon)
  refine (small7_any _ (HL.out.below HB0.out HL.out.pos)).mono ?_
  rintro e w1 ⟨rfl, hb1⟩
  have HS1 := Lib.hid (HS0.out.below hb1)
  have HB1 := Lib.hid (HB0.out.trans (hb1.mono HB0.out.size))
  clear hb1
  obtain ⟨e0, e1, e2, e3, e4, e5, e6, e7, qn⟩ := cells8 HS1.out.2.1
  obtain ⟨g0, qg⟩ := cells1 HS1.out.2.2.1
  dsimp only
  repeat (first | go_values | go_skip | go_guarded | go_step | go_upon)
  refine (HX.out _ HB1.out n _ (HN.out _ HB1.out) (by have := HBN.out; omega)).mono ?_
  clear e0 e1 e2 e3 e4 e5 e6 e7 qn g0 qg
  rintro e w2 ⟨⟨⟨a1, a2, a4⟩, v1, rfl, hx1⟩, hb2⟩
  have HS2 := Lib.hid ((HS1.out.below hb2).push #[.bool a1, .bool a2, .bool a4] 32 rfl)
  have HB2 := Lib.hid (bal (HB1.out.trans (hb2.mono HB1.out.size)) (.cells #[.bool a1, .bool a2, .bool a4] 32))
  have X1 := Lib.hid hx1
  clear hb2 hx1
  obtain ⟨e0, e1, e2, e3, e4, e5, e6, e7, qn⟩ := cells8 HS2.out.2.1
  obtain ⟨g0, qg⟩ := cells1 HS2.out.2.2.2.1
  dsimp only [otC]
  repeat (first | go_values | go_skip | go_guarded | go_step | go_upon)
  refine (HX.out _ HB2.out m _ (HM.out _ HB2.out) (by have := HBM.out; omega)).mono ?_
  clear e0 e1 e2 e3 e4 e5 e6 e7 qn g0 qg
  rintro e w3 ⟨⟨⟨b1, b2, b3⟩, v2, rfl, hx2⟩, hb3⟩
  have HS3 := Lib.hid ((HS2.out.below hb3).push #[.bool b1, .bool b2, .bool b3] 32 rfl)
  have HB3 := Lib.hid (bal (HB2.out.trans (hb3.mono HB2.out.size)) (.cells #[.bool b1, .bool b2, .bool b3] 32))
  have X2 := Lib.hid hx2
  clear hb3 hx2
  have HS4 := Lib.hid (HS3.out.push #[.int .i64 k, .string (mkS t), .int .u64 (wd x 0), .int .u64 (wd x 1), .int .u64 (wd x 2), .int .u64 (wd x 3), .slice sa l.length cap, .int .i64 p, .int .i64 k2, .string (mkS t2), .int .u64 (wd x2 0), .int .u64 (wd x2 1), .int .u64 (wd x2 2), .int .u64 (wd x2 3), .slice sa2 l2.length cap2, .int .i64 p2] 40 (b := w3.heap.size + 1) (by simp))
  have HB4 := Lib.hid (bal HB3.out (.cells #[.int .i64 k, .string (mkS t), .int .u64 (wd x 0), .int .u64 (wd x 1), .int .u64 (wd x 2), .int .u64 (wd x 3), .slice sa l.length cap, .int .i64 p, .int .i64 k2, .string (mkS t2), .int .u64 (wd x2 0), .int .u64 (wd x2 1), .int .u64 (wd x2 2), .int .u64 (wd x2 3), .slice sa2 l2.length cap2, .int .i64 p2] 40))
  obtain ⟨e0, e1, e2, e3, e4, e5, e6, e7, qn⟩ := cells8 HS3.out.2.2.1
  obtain ⟨n0, n1, n2, n3, n4, n5, n6, n7, qm⟩ := cells8 HS3.out.2.2.2.1
  obtain ⟨g0, qg⟩ := cells1 HS3.out.2.2.2.2.1
  dsimp only [otC]
  repeat (first | go_values | go_skip | go_guarded | go_step | go_upon)
  refine (HX.out _ HB4.out (.mk 6 [] 0 [n, m] 0) (ndK 6 (w3.heap.size + 1) 2) (rep_two 6 HS4.out.1 (HN.out _ HB4.out) (HM.out _ HB4.out)) (by have := HBN.out; have := HBM.out; have := bulk_two (n := n) (m := m) (k := 6); omega)).mono ?_
  clear e0 e1 e2 e3 e4 e5 e6 e7 qn g0 qg n0 n1 n2 n3 n4 n5 n6 n7 qm
  rintro e w4 ⟨⟨⟨c1, c2, c3⟩, v3, rfl, hx3⟩, hb4⟩
  have HS5 := Lib.hid ((HS4.out.below hb4).push #[.bool c1, .bool c2, .bool c3] 32 rfl)
  have HB5 := Lib.hid (bal (HB4.out.trans (hb4.mono HB4.out.size)) (.cells #[.bool c1, .bool c2, .bool c3] 32))
  have X3 := Lib.hid hx3
  clear hb4 hx3
  have HS6 := Lib.hid (HS5.out.push #[.int .i64 k, .string (mkS t), .int .u64 (wd x 0), .int .u64 (wd x 1), .int .u64 (wd x 2), .int .u64 (wd x 3), .slice sa l.length cap, .int .i64 p, .int .i64 k2, .string (mkS t2), .int .u64 (wd x2 0), .int .u64 (wd x2 1), .int .u64 (wd x2 2), .int .u64 (wd x2 3), .slice sa2 l2.length cap2, .int .i64 p2] 40 (b := w4.heap.size + 1) (by simp))
  have HB6 := Lib.hid (bal HB5.out (.cells #[.int .i64 k, .string (mkS t), .int .u64 (wd x 0), .int .u64 (wd x 1), .int .u64 (wd x 2), .int .u64 (wd x 3), .slice sa l.length cap, .int .i64 p, .int .i64 k2, .string (mkS t2), .int .u64 (wd x2 0), .int .u64 (wd x2 1), .int .u64 (wd x2 2), .int .u64 (wd x2 3), .slice sa2 l2.length cap2, .int .i64 p2] 40))
  obtain ⟨e0, e1, e2, e3, e4, e5, e6, e7, qn⟩ := cells8 HS5.out.2.2.2.2.1
  obtain ⟨n0, n1, n2, n3, n4, n5, n6, n7, qm⟩ := cells8 HS5.out.2.2.2.2.2.1
  obtain ⟨g0, qg⟩ := cells1 HS5.out.2.2.2.2.2.2.1
  dsimp only [otC]
  repeat (first | go_values | go_skip | go_guarded | go_step | go_upon)
  refine (HX.out _ HB6.out (.mk 7 [] 0 [n, m] 0) (ndK 7 (w4.heap.size + 1) 2) (rep_two 7 HS6.out.1 (HN.out _ HB6.out) (HM.out _ HB6.out)) (by have := HBN.out; have := HBM.out; have := bulk_two (n := n) (m := m) (k := 7); omega)).mono ?_
  clear e0 e1 e2 e3 e4 e5 e6 e7 qn g0 qg n0 n1 n2 n3 n4 n5 n6 n7 qm
  rintro e w5 ⟨⟨⟨d1, d2, d3⟩, v4, rfl, hx4⟩, hb5⟩
  have HS7 := Lib.hid (HS6.out.below hb5)
  have HB7 := Lib.hid (HB6.out.trans (hb5.mono HB6.out.size))
  have X4 := Lib.hid hx4
  clear hb5 hx4
  obtain ⟨l0, l1, l2, ql⟩ := cells3 HS7.out.2.1
  obtain ⟨m0, m1, m2, qm⟩ := cells3 HS7.out.2.2.2.1
  obtain ⟨o0, o1, o2, qo⟩ := cells3 HS7.out.2.2.2.2.1
  rcases X1.out.forms.symm with ⟨et, ex, rfl⟩ | ⟨rfl, T, hT⟩
  · dsimp only [otC]
    repeat (first | go_values | go_skip | go_guarded | go_step | go_upon)
    go_ret
    exact ⟨rfl, bal HB7.out _⟩
  have HT := Lib.hid hT
  clear hT
  rcases X2.out.forms.symm with ⟨et, ex, rfl⟩ | ⟨rfl, _⟩
  · dsimp only [otC]
    repeat (first | go_values | go_skip | go_guarded | go_step | go_upon)
    go_ret
    exact ⟨rfl, bal HB7.out _⟩
  rcases X3.out.forms.symm with ⟨et, ex, rfl⟩ | ⟨rfl, _⟩
  · dsimp only [otC]
    repeat (first | go_values | go_skip | go_guarded | go_step | go_upon)
    go_ret
    exact ⟨rfl, bal HB7.out _⟩
  rcases X4.out.forms.symm with ⟨et, ex, rfl⟩ | ⟨rfl, _⟩
  · dsimp only [otC]
    repeat (first | go_values | go_skip | go_guarded | go_step | go_upon)
    go_ret
    exact ⟨rfl, bal HB7.out _⟩
  have z1 := X1.out.det HT.out
  have z2 := X2.out.det HT.out
  have z3 : (⟨c1, c2, c3⟩ : Ot) = otB (otB ⟨true, false, false⟩ (exT T n)) (exT T m) := by rw [X3.out.det HT.out]; simp [exT, exS]
  have z4 : (⟨d1, d2, d3⟩ : Ot) = otI (otI ⟨false, false, true⟩ (exT T n)) (exT T m) := by rw [X4.out.det HT.out]; simp [exT, exO]
  rw [← z1, ← z2] at z3 z4
  clear z1 z2
  have z0 := HOA.out _ X1.out
  injection z0 with z01 z02 z03
  subst z01 z02 z03
  have HS9 := Lib.hid (((HS7.out.push #[.bool d1, .bool d2, .bool d3] 32 rfl).push #[.bool c1, .bool c2, .bool c3] 32 (b := w5.heap.size + 1) (by simp)).push #[.bool d1, .bool d2, .bool d3] 32 (b := w5.heap.size + 1 + 1) (by simp))
  obtain ⟨r0, r1, r2, qr⟩ := cells3 HS9.out.1
  obtain ⟨s0, s1, s2, qs⟩ := cells3 HS9.out.2.1
  obtain ⟨t0, t1, t2, qt⟩ := cells3 HS9.out.2.2.1
  obtain ⟨y0, y1, y2, qy⟩ := cells3 HS9.out.2.2.2.2.1
  have HB9 := Lib.hid (bal (bal (bal HB7.out (.cells #[.bool d1, .bool d2, .bool d3] 32)) (.cells #[.bool c1, .bool c2, .bool c3] 32)) (.cells #[.bool d1, .bool d2, .bool d3] 32))
  cases a4 <;> cases b1 <;> cases b2 <;> cases b3
  all_goals
    simp [otB, otI] at z3 z4
    obtain ⟨rfl, rfl, rfl⟩ := z3
    obtain ⟨rfl, rfl, rfl⟩ := z4
    dsimp only [otC]
    repeat (first | go_values | go_skip | go_guarded | go_step | go_upon)
    go_ret
    exact ⟨rfl, HB9.out⟩
end Go.Proofs.YtjlcoldnhbkcgaaGreatDoor
