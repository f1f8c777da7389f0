/- The walk of part. -/
import Derived.Test.YtjlcoldnhbkcgaaGreatDoorG21
import Derived.Deep.RegionHeld3
import Derived.Deep.CutBlock
namespace Go.Proofs.YtjlcoldnhbkcgaaGreatDoor
open Go.RowKit Go.Sort

theorem pre_tok {t : Tok} {rs : List Tok} (hE : EndsT (t :: rs)) : ∃ u l, (if preK (sgnOf (t :: rs)) = 0 then t :: rs else rs) = u :: l ∧ EndsT (u :: l) ∧ (u :: l).length ≤ (t :: rs).length := by
  by_cases h : preK (sgnOf (t :: rs)) = 0
  · exact ⟨t, rs, by rw [if_pos h], hE, Nat.le_refl _⟩
  · have hs : sgnOf (t :: rs) ≠ [] := fun e => h (by rw [e]; rfl)
    obtain ⟨hk, _⟩ := sgn_kind hs
    obtain ⟨u, l, rfl, hE2⟩ := hE.more (by omega)
    exact ⟨u, l, by rw [if_neg h], hE2, by simp⟩
theorem suf_tok {t : Tok} {rs : List Tok} (hE : EndsT (t :: rs)) : ∃ u l, (if sufK (sgnOf (t :: rs)) = 0 then t :: rs else rs) = u :: l ∧ EndsT (u :: l) ∧ (u :: l).length ≤ (t :: rs).length := by
  by_cases h : sufK (sgnOf (t :: rs)) = 0
  · exact ⟨t, rs, by rw [if_pos h], hE, Nat.le_refl _⟩
  · have hs : sgnOf (t :: rs) ≠ [] := fun e => h (by rw [e]; rfl)
    obtain ⟨hk, _⟩ := sgn_kind hs
    obtain ⟨u, l, rfl, hE2⟩ := hE.more (by omega)
    exact ⟨u, l, by rw [if_neg h], hE2, by simp⟩
set_option maxRecDepth 100000 in
set_option maxHeartbeats 6400000 in
theorem part_any {R g o c d L B : Nat} {t : Tok} {rs : List Tok} {w w0 : World} {ns : List Nd} {v : Value} {cs : List Value} (h : SR R g o c d (t :: rs) w) (hd : d ≤ 24) (hE : EndsT (t :: rs)) (hL : LV L B ns v cs w) (hg : w0.grownBy w (some R)) (h0 : R < w0.heap.size ∧ g < w0.heap.size ∧ w0.heap.size ≤ L) (IH : ∀ l : List Tok, l.length < (t :: rs).length → ChoiceC R g l) (hns : ns.length ≤ 10000) :
    Calls Tryz.prog 86 #[.pointer (some ⟨R, 0, none⟩), .pointer (some ⟨L, 0, none⟩)] w (fun e w' => ∃ f r, pPart f d (t :: rs) = some r ∧ PartP R g d (t :: rs).length L B w0 ns e w' r) := by
  obtain ⟨u1, l1, hr1, hE1, hlen1⟩ := pre_tok hE
  have HR1 := Lib.hid hr1
  have HE1 := Lib.hid hE1
  obtain ⟨c0, c1, fz⟩ := h.cells
  obtain ⟨a0, a1, a2, a3, a4, a5, a6⟩ := h.head
  have HH := Lib.hid h
  have qR := h.ltR
  have qg := h.lt
  have HE := Lib.hid hE
  have HLV := Lib.hid hL
  have HG := Lib.hid hg
  have HI := Lib.hid IH
  have qL := hL.ltL
  have hm1 := cell_alloc_lt
  have hm2 := frozen_alloc_lt
  obtain ⟨k, hk⟩ : ∃ k, k = preK (sgnOf (t :: rs)) := ⟨_, rfl⟩
  have HK := Lib.hid hk
  clear h hE hL hg IH hr1 hE1 hk
  dsimp only [List.length] at c0
  go_enter Tryz.func86, Tryz.ntmps86
  repeat (first | go_values | go_skip | go_guarded | go_step | go_upon)
  refine (ssign_any (HH.out.alloc _)).mono ?_
  rintro e w1 ⟨rfl, hb1⟩
  have z1 := hb1.size
  simp only [World.size_alloc] at z1
  have HP1 := Lib.hid (show P1 R g d w.heap.size w t (t :: rs) w1 from ⟨⟨o, c, (HH.out.alloc _).below hb1⟩, below_gby _ (bstep (bal (Below.refl _ _) _) hb1), (hb1.block w.heap.size (by simp)).trans (heap_alloc_new _ _)⟩)
  dsimp only
  clear c0 c1 fz a0 a1 a2 a3 a4 a5 a6 hb1
  repeat (go_not_at_block 0; first | go_values | go_skip | go_guarded | go_step | go_upon)
  go_cut [6] from 18 to 74 (fun s6 wx => s6 = .int .i64 (k : Int) ∧ wx = w1)
  case first =>
    by_cases e38 : sgnOf (t :: rs) = [38]
    · have s1 : ((mkS (sgnOf (t :: rs))).toList == [38]) = true := by rw [sgn_str]; simpa using e38
      obtain rfl : k = 11 := by rw [HK.out, e38]; rfl
      clear e38
      repeat (first | go_values | go_skip | go_guarded | go_step | go_upon)
      go_meet
      exact ⟨rfl, rfl⟩
    · have s1 : ((mkS (sgnOf (t :: rs))).toList == [38]) = false := by rw [sgn_str]; simpa using e38
      by_cases e33 : sgnOf (t :: rs) = [33]
      · have s2 : ((mkS (sgnOf (t :: rs))).toList == [33]) = true := by rw [sgn_str]; simpa using e33
        obtain rfl : k = 12 := by rw [HK.out, e33]; rfl
        clear e38 e33
        repeat (first | go_values | go_skip | go_guarded | go_step | go_upon)
        go_meet
        exact ⟨rfl, rfl⟩
      · have s2 : ((mkS (sgnOf (t :: rs))).toList == [33]) = false := by rw [sgn_str]; simpa using e33
        obtain rfl : k = 0 := by rw [HK.out, preK, if_neg e38, if_neg e33]
        clear e38 e33
        repeat (first | go_values | go_skip | go_guarded | go_step | go_upon)
        go_meet
        exact ⟨rfl, rfl⟩
  case rest =>
    obtain ⟨rfl, rfl⟩ := hcut
    repeat (go_not_at_if 23; first | go_values | go_skip | go_guarded | go_step | go_upon)
    go_cut [6] from 22 to 74 (fun s6 wx => s6 = .int .i64 (k : Int) ∧ P1 R g d w.heap.size w t (u1 :: l1) wx)
    case first =>
      by_cases hk0 : k = 0
      · subst hk0
        have m1 : (((0 : Nat) : Int) != 0) = false := rfl
        have E1 := Lib.hid (show t :: rs = u1 :: l1 by rw [← HR1.out, if_pos HK.out.symm])
        repeat (first | go_values | go_skip | go_guarded | go_step | go_upon)
        go_meet
        exact ⟨rfl, by rw [← E1.out]; exact HP1.out⟩
      · have m1 : ((k : Int) != 0) = true := by simpa using hk0
        have E1 := Lib.hid (show rs = u1 :: l1 by rw [← HR1.out, if_neg (by rw [← HK.out]; exact hk0)])
        clear hk0
        repeat (first | go_values | go_skip | go_guarded | go_step | go_upon)
        obtain ⟨o1, c1, h1⟩ := HP1.out.rd
        rw [E1.out] at h1
        refine (snext_any h1).mono ?_
        rintro e w2 ⟨rfl, h2, g2⟩
        have H2 := Lib.hid h2
        have G2 := Lib.hid g2
        clear h1 h2 g2
        dsimp only
        repeat (first | go_values | go_skip | go_guarded | go_step | go_upon)
        go_meet
        exact ⟨rfl, HP1.out.turn qR G2.out ⟨_, _, H2.out⟩⟩
    case rest =>
      obtain ⟨rfl, hp⟩ := hcut
      have HP := Lib.hid hp
      obtain ⟨o1, c1, h1⟩ := hp.rd
      have H1 := Lib.hid h1
      have qT := hp.ltT
      clear hp h1
      obtain ⟨wa, rfl⟩ : ∃ wa : World, wa = wc := ⟨_, rfl⟩
      repeat (first | go_values | go_skip | go_guarded | go_step | go_upon)
      refine (one_full H1.out hd HE1.out (fun l hl => HI.out l (Nat.lt_of_lt_of_le hl hlen1))).mono ?_
      rintro e w2 ⟨f, r, hf, hr⟩
      have HF := Lib.hid hf
      have zw := HG.out.size
      clear hf
      cases r with
      | err ec ex =>
        obtain ⟨⟨p, rfl, hp, hl⟩, g2⟩ := hr
        dsimp only
        repeat (first | go_values | go_skip | go_guarded | go_step | go_upon)
        exact ⟨rfl, f + 1, .err ec ex, by rw [pPart, show (t :: rs).tail = rs from rfl, HR1.out, HF.out], ⟨p, rfl, hp, by omega⟩, HG.out.trans (HP.out.grow.trans g2)⟩
      | ok a rs2 =>
        cases a with
        | none =>
          obtain ⟨rfl, ⟨o2, c2, h2⟩, g2, hE3, hlen⟩ := hr
          have H2 := Lib.hid h2
          have G2 := Lib.hid (HP.out.grow.trans g2)
          have z2 := g2.size
          have HE3 := Lib.hid hE3
          clear h2 g2 hE3
          dsimp only [zeroNd]
          by_cases hk0 : k = 0
          · subst hk0
            have m1 : (((0 : Nat) : Int) != 0) = false := rfl
            have HK2 := Lib.hid HK.out.symm
            repeat (first | go_values | go_skip | go_guarded | go_step | go_upon)
            go_ret
            refine ⟨f + 1, .ok none rs2, by rw [pPart, show (t :: rs).tail = rs from rfl, HR1.out, HF.out]; simp only; rw [if_pos HK2.out], rfl, ⟨v, cs, (HLV.out.gby G2.out (by omega)).alloc _⟩, ⟨o2, c2, H2.out.alloc _⟩, gby_alloc (HG.out.trans G2.out) _, HE3.out, Nat.le_trans hlen hlen1⟩
          · have m1 : ((k : Int) != 0) = true := by simpa using hk0
            have HK2 := Lib.hid (show ¬ preK (sgnOf (t :: rs)) = 0 by rw [← HK.out]; exact hk0)
            obtain ⟨u2, l2, rfl⟩ := HE3.out.ne
            clear hk0
            repeat (first | go_values | go_skip | go_guarded | go_step | go_upon)
            refine (swrong_any (H2.out.alloc _)).mono ?_
            rintro e w3 ⟨⟨p, rfl, hp, hl⟩, hb3⟩
            dsimp only
            repeat (first | go_values | go_skip | go_guarded | go_step | go_upon)
            simp only [World.size_alloc] at hl
            exact ⟨rfl, f + 1, .err (badE (u2 :: l2)) u2.pos, by rw [pPart, show (t :: rs).tail = rs from rfl, HR1.out, HF.out]; simp only; rw [if_neg HK2.out]; rfl, ⟨p, rfl, hp, by omega⟩, gby_below (gby_alloc (HG.out.trans G2.out) _) hb3⟩
        | some n =>
          obtain ⟨cc, rfl, hrep, ⟨o2, c2, h2⟩, g2, hE3, hlen⟩ := hr
          obtain ⟨u2, l2, rfl⟩ := hE3.ne
          obtain ⟨k0, t0, x0, v0, l0, e1, e2, h3⟩ := hrep.form
          obtain ⟨sa, sn, sc, rfl⟩ := h3.slice
          obtain rfl : cc = (ndC k0 t0 x0 (.slice sa sn sc) n.pos).toArray := by rw [← e2]
          have z2 := g2.size
          have HPN := Lib.hid (show PS R g d w.heap.size w2.heap.size w t (u2 :: l2) n (w2.alloc (.cells (ndC k0 t0 x0 (.slice sa sn sc) n.pos).toArray 40)) from
            ⟨(HP.out.turn qR g2 ⟨o2, c2, h2⟩).alloc qR _, ⟨ndC k0 t0 x0 (.slice sa sn sc) n.pos, heap_alloc_new _ _, Rep.mono (fun b hb => RowKit.Below.heap_alloc _ _ _ hb.hi) (fun b hb => ⟨by have := hb.lo; omega, by have := hb.hi; rw [World.size_alloc]; omega, by have := hb.hi; omega⟩) hrep⟩, by omega⟩)
          have H2 := Lib.hid h2
          have HE3 := Lib.hid hE3
          obtain ⟨u3, l3, hr3, hE4, hlen3⟩ := suf_tok hE3
          have HR3 := Lib.hid hr3
          have HE4 := Lib.hid hE4
          clear h2 g2 hrep e1 e2 h3 hE3 hr3 hE4
          obtain ⟨n1, hn1⟩ : ∃ n1, n1 = (if sufK (sgnOf (u2 :: l2)) = 0 then n else .mk (sufK (sgnOf (u2 :: l2))) [] 0 [n] n.pos) := ⟨_, rfl⟩
          have HN1 := Lib.hid hn1
          obtain ⟨n2, hn2⟩ : ∃ n2, n2 = (if preK (sgnOf (t :: rs)) = 0 then n1 else .mk (preK (sgnOf (t :: rs))) [] 0 [n1] t.pos) := ⟨_, rfl⟩
          have HN2 := Lib.hid hn2
          have HPP := Lib.hid (show pPart (f + 1) d (t :: rs) = some (.ok (some n2) (u3 :: l3)) by
            rw [pPart, show (t :: rs).tail = rs from rfl, HR1.out, HF.out]; simp only; rw [hn2, hn1, ← HR3.out]; rfl)
          clear hn1 hn2
          dsimp only [ndC]
          repeat (first | go_values | go_skip | go_guarded | go_step | go_upon)
          refine (ssign_any (H2.out.alloc _)).mono ?_
          rintro e w3 ⟨rfl, hb3⟩
          have HPS := Lib.hid (HPN.out.below qR hb3)
          clear hb3
          dsimp only
          repeat (go_not_at_block 1; first | go_values | go_skip | go_guarded | go_step | go_upon)
          obtain ⟨N, hN⟩ : ∃ N, N = w2.heap.size := ⟨_, rfl⟩
          rw [← hN] at HPS ⊢
          have qN : w.heap.size < N := by omega
          clear hN
          go_cut [] from 37 to 74 (fun wx => PS R g d w.heap.size N w t (u3 :: l3) n1 wx)
          case first =>
            by_cases hsf : sufK (sgnOf (u2 :: l2)) = 0
            · have q1 : sgnOf (u2 :: l2) ≠ [43] := by intro e; rw [sufK, if_pos e] at hsf; cases hsf
              have q2 : sgnOf (u2 :: l2) ≠ [42] := by intro e; rw [sufK, if_neg q1, if_pos e] at hsf; cases hsf
              have q3 : sgnOf (u2 :: l2) ≠ [63] := by intro e; rw [sufK, if_neg q1, if_neg q2, if_pos e] at hsf; cases hsf
              have s3 : ((mkS (sgnOf (u2 :: l2))).toList == [43]) = false := by rw [sgn_str]; simpa using q1
              have s4 : ((mkS (sgnOf (u2 :: l2))).toList == [42]) = false := by rw [sgn_str]; simpa using q2
              have s5 : ((mkS (sgnOf (u2 :: l2))).toList == [63]) = false := by rw [sgn_str]; simpa using q3
              have HX := Lib.hid (show PS R g d w.heap.size N w t (u3 :: l3) n1 w3 by rw [← HR3.out, if_pos hsf, HN1.out, if_pos hsf]; exact HPS.out)
              clear q1 q2 q3 hsf
              repeat (first | go_values | go_skip | go_guarded | go_step | go_upon)
              go_meet
              exact HX.out
            · have hfin : ∃ j : Nat, j ≤ 2 ∧ sufK (sgnOf (u2 :: l2)) = 8 + j ∧ ((mkS (sgnOf (u2 :: l2))).toList == [43]) = decide (j = 2) ∧ ((mkS (sgnOf (u2 :: l2))).toList == [42]) = decide (j = 1) ∧ ((mkS (sgnOf (u2 :: l2))).toList == [63]) = decide (j = 0) := by
                rw [sgn_str, sgn_str, sgn_str]
                by_cases q1 : sgnOf (u2 :: l2) = [43]
                · exact ⟨2, by omega, by rw [q1]; rfl, by rw [q1]; rfl, by rw [q1]; rfl, by rw [q1]; rfl⟩
                by_cases q2 : sgnOf (u2 :: l2) = [42]
                · exact ⟨1, by omega, by rw [q2]; rfl, by rw [q2]; rfl, by rw [q2]; rfl, by rw [q2]; rfl⟩
                by_cases q3 : sgnOf (u2 :: l2) = [63]
                · exact ⟨0, by omega, by rw [q3]; rfl, by rw [q3]; rfl, by rw [q3]; rfl, by rw [q3]; rfl⟩
                exact absurd (by rw [sufK, if_neg q1, if_neg q2, if_neg q3]) hsf
              obtain ⟨j, hj, hsk, s3, s4, s5⟩ := hfin
              have E1 := Lib.hid (show l2 = u3 :: l3 by rw [← HR3.out, if_neg hsf])
              have EN := Lib.hid (show n1 = .mk (8 + j) [] 0 [n] n.pos by rw [HN1.out, if_neg hsf, hsk])
              clear hsf hsk
              obtain ⟨o3, c3, h3⟩ := HPS.out.p1.rd
              rw [E1.out] at h3
              have H3 := Lib.hid h3
              clear h3
              obtain rfl | rfl | rfl : j = 0 ∨ j = 1 ∨ j = 2 := by omega
              all_goals
                simp only [decide_true, decide_false, Nat.reduceEqDiff] at s3 s4 s5
                repeat (first | go_values | go_skip | go_guarded | go_step | go_upon)
                refine (snext_any H3.out).mono ?_
                rintro e w4 ⟨rfl, h4, g4⟩
                have HX := Lib.hid (HPS.out.turn qR g4 ⟨_, _, h4⟩)
                obtain ⟨c4, hn4, hr4⟩ := HX.out.node
                obtain ⟨k4, t4, x4, v4, l4, e1, e2, h5⟩ := hr4.form
                obtain ⟨sa4, sn4, sc4, rfl⟩ := h5.slice
                subst e2
                clear e1 h5 h4 g4
                have HNN := Lib.hid hn4
                have HRR := Lib.hid hr4
                have qN4 := HX.out.ltN
                have b0 : w4.cell? ⟨N, 0, none⟩ = some (.int .i64 (k4 : Int)) := (cells_at hn4).1 0
                have b1 : w4.cell? ⟨N, 1, none⟩ = some (.string (mkS t4)) := (cells_at hn4).1 1
                have b2 : w4.cell? ⟨N, 2, none⟩ = some (.int .u64 (wd x4 0)) := (cells_at hn4).1 2
                have b3 : w4.cell? ⟨N, 3, none⟩ = some (.int .u64 (wd x4 1)) := (cells_at hn4).1 3
                have b4 : w4.cell? ⟨N, 4, none⟩ = some (.int .u64 (wd x4 2)) := (cells_at hn4).1 4
                have b5 : w4.cell? ⟨N, 5, none⟩ = some (.int .u64 (wd x4 3)) := (cells_at hn4).1 5
                have b6 : w4.cell? ⟨N, 6, none⟩ = some (.slice sa4 sn4 sc4) := (cells_at hn4).1 6
                have b7 : w4.cell? ⟨N, 7, none⟩ = some (.int .i64 (n.pos : Int)) := (cells_at hn4).1 7
                have bf := (cells_at hn4).2.1
                clear hn4 hr4
                dsimp only
                repeat (first | go_values | go_skip | go_guarded | go_step | go_upon)
                go_meet
                rw [EN.out]
                exact PS.wrap HX.out.p1 qR qg (Nat.le_refl _) qN HNN.out HRR.out _ _
          case rest =>
            obtain ⟨wb, rfl⟩ : ∃ wb : World, wb = wc := ⟨_, rfl⟩
            have HPS2 := Lib.hid hcut
            clear hcut
            repeat (go_not_at_if 59; first | go_values | go_skip | go_guarded | go_step | go_upon)
            go_cut [] from 58 to 74 (fun wx => PS R g d w.heap.size N w t (u3 :: l3) n2 wx)
            case first =>
              by_cases hk0 : k = 0
              · have HX := Lib.hid (show PS R g d w.heap.size N w t (u3 :: l3) n2 wb by rw [HN2.out, if_pos (by rw [← HK.out]; exact hk0)]; exact HPS2.out)
                subst hk0
                have m1 : (((0 : Nat) : Int) != 0) = false := rfl
                repeat (first | go_values | go_skip | go_guarded | go_step | go_upon)
                go_meet
                exact HX.out
              · have m1 : ((k : Int) != 0) = true := by simpa using hk0
                have EN := Lib.hid (show n2 = .mk k [] 0 [n1] t.pos by rw [HN2.out, ← HK.out, if_neg hk0])
                obtain ⟨c4, hn4, hr4⟩ := HPS2.out.node
                obtain ⟨k4, t4, x4, v4, l4, e1, e2, h5⟩ := hr4.form
                obtain ⟨sa4, sn4, sc4, rfl⟩ := h5.slice
                subst e2
                have HNN := Lib.hid hn4
                have HRR := Lib.hid hr4
                have qN4 := HPS2.out.ltN
                have b0 : wb.cell? ⟨N, 0, none⟩ = some (.int .i64 (k4 : Int)) := (cells_at hn4).1 0
                have b1 : wb.cell? ⟨N, 1, none⟩ = some (.string (mkS t4)) := (cells_at hn4).1 1
                have b2 : wb.cell? ⟨N, 2, none⟩ = some (.int .u64 (wd x4 0)) := (cells_at hn4).1 2
                have b3 : wb.cell? ⟨N, 3, none⟩ = some (.int .u64 (wd x4 1)) := (cells_at hn4).1 3
                have b4 : wb.cell? ⟨N, 4, none⟩ = some (.int .u64 (wd x4 2)) := (cells_at hn4).1 4
                have b5 : wb.cell? ⟨N, 5, none⟩ = some (.int .u64 (wd x4 3)) := (cells_at hn4).1 5
                have b6 : wb.cell? ⟨N, 6, none⟩ = some (.slice sa4 sn4 sc4) := (cells_at hn4).1 6
                have b7 : wb.cell? ⟨N, 7, none⟩ = some (.int .i64 (n1.pos : Int)) := (cells_at hn4).1 7
                have bT : wb.cell? ⟨w.heap.size, 6, none⟩ = some (.int .i64 (t.pos : Int)) := (cells_at HPS2.out.p1.tok).1 6
                have qT2 := HPS2.out.p1.ltT
                have bf := (cells_at hn4).2.1
                clear hn4 hr4 hk0 e1 h5
                repeat (first | go_values | go_skip | go_guarded | go_step | go_upon)
                go_meet
                rw [EN.out]
                exact PS.wrap HPS2.out.p1 qR qg (Nat.le_refl _) qN HNN.out HRR.out _ _
            case rest =>
              obtain ⟨w3', rfl⟩ : ∃ w3' : World, w3' = wc := ⟨_, rfl⟩
              have HPS3 := Lib.hid hcut
              obtain ⟨⟨⟨o4, c4, h4⟩, hg4, _⟩, ⟨cN, hn4, hr4⟩, _⟩ := hcut
              have H4 := Lib.hid h4
              have G4 := Lib.hid (HG.out.trans hg4)
              have LV4 := HLV.out.gby hg4 (by omega)
              have hlo : ∀ k, v.ownBlock = some k → k < w.heap.size := fun k hk => (HLV.out.own.lt k hk).2
              obtain ⟨k4, t4, x4, v4, l4, e1, e2, h5⟩ := hr4.form
              obtain ⟨sa4, sn4, sc4, rfl⟩ := h5.slice
              subst e2
              have HRR := Lib.hid (rep_wide hr4 (P' := Blk w.heap.size w3'.heap.size) (fun b hb => ⟨hb.1, hb.2.1⟩))
              have b0 : w3'.cell? ⟨N, 0, none⟩ = some (.int .i64 (k4 : Int)) := (cells_at hn4).1 0
              have b1 : w3'.cell? ⟨N, 1, none⟩ = some (.string (mkS t4)) := (cells_at hn4).1 1
              have b2 : w3'.cell? ⟨N, 2, none⟩ = some (.int .u64 (wd x4 0)) := (cells_at hn4).1 2
              have b3 : w3'.cell? ⟨N, 3, none⟩ = some (.int .u64 (wd x4 1)) := (cells_at hn4).1 3
              have b4 : w3'.cell? ⟨N, 4, none⟩ = some (.int .u64 (wd x4 2)) := (cells_at hn4).1 4
              have b5 : w3'.cell? ⟨N, 5, none⟩ = some (.int .u64 (wd x4 3)) := (cells_at hn4).1 5
              have b6 : w3'.cell? ⟨N, 6, none⟩ = some (.slice sa4 sn4 sc4) := (cells_at hn4).1 6
              have b7 : w3'.cell? ⟨N, 7, none⟩ = some (.int .i64 (n2.pos : Int)) := (cells_at hn4).1 7
              have qN4 := HPS3.out.ltN
              have l1 := LV4.here
              have HL1 := Lib.hid l1
              have HL2 := Lib.hid LV4.own
              have HLV4 := Lib.hid LV4
              have qL4 := LV4.ltL
              have qLB : L < B := by have := LV4.lt; omega
              have hB4 : B ≤ w3'.heap.size := by have := LV4.lt; omega
              have HLO := Lib.hid hlo
              have HBL := Lib.hid (show B ≤ w.heap.size by have := LV4.lt; omega)
              obtain ⟨m, hm⟩ : ∃ m, m = ns.length := ⟨_, rfl⟩
              have hm10 : m ≤ 10000 := by omega
              have hvs : ∃ a cap, v = .slice a m cap := by
                rw [hm]
                rcases owns_form2 HL2.out with ⟨hn0, hv⟩ | ⟨g3, cap3, hv⟩
                · exact ⟨none, 0, by rw [hn0]; exact hv⟩
                · exact ⟨_, _, hv⟩
              obtain ⟨va, vcap, rfl⟩ := hvs
              obtain ⟨i0, iH, iz, is, ib⟩ := info_parts info_node
              have lc : w3'.cell? ⟨L, 0, none⟩ = some (.slice va m vcap) := (cells_at l1).1 0
              have lf := (cells_at l1).2.1
              have HM := Lib.hid hm
              have ik0 : (0 : Int) ≤ (m : Int) := by omega
              have ik1 : (m : Int) < (m : Int) + 1 := by omega
              have HL3 := Lib.hid (show w3'.ownsRow B 40 8 (.slice va m vcap) m cs by have := HL2.out; rwa [← hm] at this)
              have HN := Lib.hid (heap_alloc_new w3' (.cells #[.int .i64 0, .string ⟨#[]⟩, .int .u64 0, .int .u64 0, .int .u64 0, .int .u64 0, .slice none 0 0, .int .i64 0] 40))
              clear h4 hg4 hn4 hr4 e1 h5 LV4 hlo l1 hm
              repeat (first | go_values | go_skip | go_guarded | go_step | go_upon)
              go_cut [] from 66 to 74 (fun wx => PartF R g d L B w0 (ns ++ [n2]) (u3 :: l3) wx)
              case first =>
                go_region_law (refine step_append_lies _ (by rfl) _ _ _ (by rfl) B 40 i0 _ 8 88 Tryz.underlying38 iH iz is ib rfl (by omega) _ m cs (by rfl) ((HL3.out.alloc _).drew) ⟨w3'.heap.size, 0, none⟩ 1 1 [.int .i64 0, .string ⟨#[]⟩, .int .u64 0, .int .u64 0, .int .u64 0, .int .u64 0, .slice none 0 0, .int .i64 0] (by rfl) (by rfl) (World.news_of_block (cs := #[.int .i64 0, .string ⟨#[]⟩, .int .u64 0, .int .u64 0, .int .u64 0, .int .u64 0, .slice none 0 0, .int .i64 0]) (t := 40) (fr := (0, 0)) HN.out) (by simp [Value.oneCell']) (by omega) (by unfold maxLen; omega) (by omega) (by simp; omega) (w3'.heap.size + 1) (by simp) ?_; intro gg cap w4 hown4 hgrow hat hlt; obtain ⟨b0, b1, b2, b3, b4, b5, b6, b7, fz4⟩ := new8 hown4; obtain ⟨dL, fL, eL⟩ := low_cell HL3.out hgrow qL4 qLB HL1.out; have qLg : L < gg := Nat.lt_of_lt_of_le qLB (owns_block hown4).1; have hm3 := cell_set_lt)
                all_goals
                  have hfin := part_fin HM.out HLV4.out H4.out h0 G4.out hgrow hat HLO.out HBL.out HRR.out hown4 eL
                  clear b0 b1 b2 b3 b4 b5 b6 b7 fz4 dL fL eL hown4 hgrow hat
                  repeat (first | go_values | go_skip | go_guarded | go_step | go_upon)
                  refine Met.intro ?_
                  rename_i hJ
                  refine hJ _ _ ?_
                  (repeat apply Exists.intro)
                  refine ⟨?_, rfl⟩
                  first
                  | with_reducible exact hfin.1
                  | with_reducible exact hfin.2
              case rest =>
                obtain ⟨⟨v', cs', p1⟩, p2, p3⟩ := hcut
                repeat (first | go_values | go_skip | go_guarded | go_step | go_upon)
                go_ret
                exact ⟨f + 1, _, HPP.out, rfl, ⟨_, _, p1⟩, p2, p3, HE4.out, Nat.lt_of_le_of_lt hlen3 (Nat.lt_of_lt_of_le hlen hlen1)⟩
end Go.Proofs.YtjlcoldnhbkcgaaGreatDoor
