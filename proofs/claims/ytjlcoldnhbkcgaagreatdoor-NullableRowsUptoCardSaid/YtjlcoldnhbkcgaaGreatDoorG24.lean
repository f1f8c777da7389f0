/- The walk of choice; its contract at any tokens. -/
import Derived.Test.YtjlcoldnhbkcgaaGreatDoorG23
namespace Go.Proofs.YtjlcoldnhbkcgaaGreatDoor
open Go.RowKit Go.Sort

/-- A row of trees in a slot: its own block, and the trees' blocks beside it, from a number on. -/
structure RV (B : Nat) (ns : List Nd) (v : Value) (cs : List Value) (w : World) : Prop where
  own : w.ownsRow B 40 8 v ns.length cs
  reps : Reps w (fun b => B ≤ b ∧ b < w.heap.size ∧ v.ownBlock ≠ some b) ns cs
theorem RV.gby {B R : Nat} {ns : List Nd} {v : Value} {cs : List Value} {w w' : World} (h : RV B ns v cs w) (hg : w.grownBy w' (some R)) (hR : R < B) : RV B ns v cs w' := by
  refine ⟨h.own.kept hg ?_, Reps.mono (fun b hb => hg.block b hb.2.1 (fun e => by have := Option.some.inj e; have := hb.1; omega)) (fun b hb => ⟨hb.1, Nat.lt_of_lt_of_le hb.2.1 hg.size, hb.2.2⟩) h.reps⟩
  cases hb : v.ownBlock with
  | none => left; rfl
  | some k => right; have := (h.own.lt k hb).1; simp; omega
theorem RV.below {B : Nat} {ns : List Nd} {v : Value} {cs : List Value} {w w' : World} (h : RV B ns v cs w) (hb : Below w.heap.size w w') : RV B ns v cs w' :=
  ⟨owns_below h.own hb, Reps.mono (fun b h => hb.block b h.2.1) (fun _ h => ⟨h.1, Nat.lt_of_lt_of_le h.2.1 hb.size, h.2.2⟩) h.reps⟩
/-- One tree in a new row. -/
theorem RV.one {B : Nat} {n : Nd} {c : List Value} {w : World} (hn : Rep w (Blk B w.heap.size) n c) (hB : B ≤ w.heap.size) (hc : c.length = 8) : RV B [n] (.slice (some ⟨w.heap.size, 0, none⟩) 1 1) c (w.alloc (.cells c.toArray 40)) := by
  refine ⟨World.ownsRow_lit w c.toArray 1 hB (by unfold maxLen; decide) (by simp; omega), ?_⟩
  have h1 : Reps (w.alloc (.cells c.toArray 40)) (fun b => B ≤ b ∧ b < (w.alloc (.cells c.toArray 40)).heap.size ∧ (Value.slice (some ⟨w.heap.size, 0, none⟩) 1 1).ownBlock ≠ some b) [n] (c ++ []) := by
    refine .cons (Rep.mono (fun b hb => RowKit.Below.heap_alloc _ _ _ hb.hi) (fun b hb => ⟨hb.lo, by have := hb.hi; rw [World.size_alloc]; omega, fun e => by have := hb.hi; have e2 : w.heap.size = b := Option.some.inj e; omega⟩) hn) .nil
  simpa using h1
theorem RV.push {B gg cap lo : Nat} {ns : List Nd} {n : Nd} {v : Value} {cs c : List Value} {o : Obj} {w w4 : World} (h : RV B ns v cs w) (hg : (w.alloc o).grownBy w4 v.ownBlock) (hat : v.ownBlock = some gg ∨ gg = w.heap.size + 1)
    (hlo : ∀ k, v.ownBlock = some k → k < lo) (hBl : B ≤ lo) (hn : Rep w (Blk lo w.heap.size) n c)
    (hown : w4.ownsRow B 40 8 (.slice (some ⟨gg, 0, none⟩) (ns.length + 1) cap) (ns.length + 1) (cs ++ c)) : RV B (ns ++ [n]) (.slice (some ⟨gg, 0, none⟩) (ns.length + 1) cap) (cs ++ c) w4 := by
  have hz := hg.size
  simp at hz
  have key : ∀ b, B ≤ b → b < w.heap.size → v.ownBlock ≠ some b → b ≠ gg ∧ w4.heap[b]? = w.heap[b]? := by
    intro b h1 h2 h3
    have hne : b ≠ gg := by
      rintro rfl
      rcases hat with e | e
      · exact h3 e
      · omega
    refine ⟨hne, ?_⟩
    rw [hg.block b (by simp; omega) (fun e => h3 e.symm)]
    exact RowKit.Below.heap_alloc _ _ _ h2
  refine ⟨by rw [List.length_append]; exact hown, Reps.snoc ?_ ?_⟩
  · exact Reps.mono (fun b hb => (key b hb.1 hb.2.1 hb.2.2).2) (fun b hb => ⟨hb.1, by have := hb.2.1; omega, fun e => (key b hb.1 hb.2.1 hb.2.2).1 (Option.some.inj e).symm⟩) h.reps
  · have k2 : ∀ b, Blk lo w.heap.size b → v.ownBlock ≠ some b := fun b hb e => by have := hlo b e; have := hb.lo; omega
    exact Rep.mono (fun b hb => (key b (by have := hb.lo; omega) hb.hi (k2 b hb)).2) (fun b hb => ⟨by have := hb.lo; omega, by have := hb.hi; omega, fun e => (key b (by have := hb.lo; omega) hb.hi (k2 b hb)).1 (Option.some.inj e).symm⟩) hn
/-- From a state of a choice on, its end is the choice's. -/
def AltsOn (d : Nat) (rs rs' : List Tok) (ns : List Nd) : Prop := ∀ f r, pAlts f d rs' ns = some r → ∃ f', pChoice f' d rs = some r
theorem AltsOn.start {d f : Nat} {rs rs2 : List Tok} {n : Nd} (hp : pParts f d rs [] = some (.ok n rs2)) : AltsOn d rs rs2 [n] := fun f2 r h2 => ⟨f + f2 + 1, by
  rw [pChoice, pParts_mono hp (by omega)]
  exact pAlts_mono h2 (by omega)⟩
theorem AltsOn.stop {d : Nat} {rs rs' : List Tok} {ns : List Nd} (h : AltsOn d rs rs' ns) (hs : sgnOf rs' ≠ [47]) : ∃ f', pChoice f' d rs = some (.ok (joinN 7 ns) rs') := h 1 _ (by rw [pAlts, if_neg hs])
theorem AltsOn.err {d f c x : Nat} {rs rs' : List Tok} {ns : List Nd} (h : AltsOn d rs rs' ns) (hs : sgnOf rs' = [47]) (hp : pParts f d rs'.tail [] = some (.err c x)) : ∃ f', pChoice f' d rs = some (.err c x) := h (f + 1) _ (by rw [pAlts, if_pos hs, hp])
theorem AltsOn.next {d f : Nat} {rs rs' rs2 : List Tok} {ns : List Nd} {n : Nd} (h : AltsOn d rs rs' ns) (hs : sgnOf rs' = [47]) (hp : pParts f d rs'.tail [] = some (.ok n rs2)) : AltsOn d rs rs2 (ns ++ [n]) := fun f2 r h2 => h (f + f2 + 1) r (by
  rw [pAlts, if_pos hs, pParts_mono hp (by omega)]
  exact pAlts_mono h2 (by omega))
/-- The state of a choice. -/
structure ChI (R g d : Nat) (w : World) (rs : List Tok) (ns : List Nd) (rs' : List Tok) (v : Value) (wr : World) : Prop where
  rd : ∃ o c, SR R g o c d rs' wr
  row : ∃ cs, RV (w.heap.size + 1) ns v cs wr
  grow : (w.alloc (.cells #[.int .i64 0, .string ⟨#[]⟩, .int .u64 0, .int .u64 0, .int .u64 0, .int .u64 0, .slice none 0 0, .int .i64 0] 40)).grownBy wr (some R)
  ends : EndsT rs'
  pos : 0 < ns.length
  len : ns.length + rs'.length ≤ rs.length + 1
theorem ChI.meas {R g d : Nat} {w : World} {rs : List Tok} {ns : List Nd} {rs' : List Tok} {v : Value} {wr : World} (h : ChI R g d w rs ns rs' v wr) : slLen ((wr.cell? ⟨R, 0, none⟩).getD undef) = rs'.length := by
  obtain ⟨o, c, hs⟩ := h.rd
  rw [hs.cells.1]; rfl
set_option maxRecDepth 100000 in
set_option maxHeartbeats 6400000 in
theorem choice_any {R g o c d : Nat} {rs : List Tok} {w : World} (h : SR R g o c d rs w) (hd : d ≤ 24) (hE : EndsT rs) (IH : ∀ l : List Tok, l.length < rs.length → ChoiceC R g l) (hlen : rs.length ≤ 9000) :
    Calls Tryz.prog 45 #[.pointer (some ⟨R, 0, none⟩)] w (fun e w' => ∃ f r, pChoice f d rs = some r ∧ NdP R g d rs.length w e w' r) := by
  have HI := Lib.hid IH
  have HE := Lib.hid hE
  have HH := Lib.hid h
  have qR := h.ltR
  have qg := h.lt
  have hm1 := cell_alloc_lt
  have hm2 := frozen_alloc_lt
  clear h hE IH
  go_enter Tryz.func45, Tryz.ntmps45
  repeat (first | go_values | go_skip | go_guarded | go_step | go_upon)
  refine (row_any (HH.out.alloc _) hd HE.out HI.out hlen).mono ?_
  rintro e w1 ⟨f, r, hf, hr⟩
  cases r with
  | err ec ex =>
    obtain ⟨⟨p, rfl, hp, hl⟩, g2⟩ := hr
    simp only [World.size_alloc] at hl
    dsimp only
    repeat (first | go_values | go_skip | go_guarded | go_step | go_upon)
    exact ⟨rfl, f + 1, .err ec ex, by rw [pChoice, hf], ⟨p, rfl, hp, by omega⟩, (below_gby _ (bal (Below.refl _ _) _)).trans g2⟩
  | ok n rs2 =>
    obtain ⟨cc, rfl, hrep, ⟨o2, c2, h2⟩, g2, hE3, hlen2⟩ := hr
    obtain ⟨k0, t0, x0, v0, l0, e1, e2, h3⟩ := hrep.form
    obtain ⟨sa, sn, sc, rfl⟩ := h3.slice
    obtain rfl : cc = (ndC k0 t0 x0 (.slice sa sn sc) n.pos).toArray := by rw [← e2]
    have z2 := g2.size
    simp only [World.size_alloc] at z2
    have HC0 := Lib.hid (show ChI R g d w rs [n] rs2 (.slice (some ⟨w1.heap.size, 0, none⟩) 1 1) (w1.alloc (.cells (ndC k0 t0 x0 (.slice sa sn sc) n.pos).toArray 40)) from
      ⟨⟨o2, c2, h2.alloc _⟩, ⟨_, RV.one (rep_wide hrep (fun b hb => ⟨by have := hb.lo; simp at this; omega, hb.hi⟩)) (by omega) rfl⟩, gby_alloc g2 _, hE3, by simp, by simp; omega⟩)
    have HA := Lib.hid (AltsOn.start hf)
    clear h2 g2 hrep e1 e2 h3 hE3 hf
    dsimp only [ndC]
    repeat (first | go_values | go_skip | go_guarded | go_step | go_upon)
    go_loopw [3] (fun v wr => ∃ (ns : List Nd) (rs' : List Tok), ChI R g d w rs ns rs' v wr ∧ Hid (AltsOn d rs rs' ns)) (fun _ wr => slLen ((wr.cell? ⟨R, 0, none⟩).getD undef))
    case atStart => exact ⟨[n], rs2, HC0.out, HA⟩
    case round =>
      obtain ⟨ns, rs', hI, hon⟩ := hrel
      have HCI := Lib.hid hI
      obtain ⟨⟨o3, c3, h3⟩, ⟨cs, hRV⟩, hg, hE1, hpos, hl1⟩ := hI
      obtain ⟨t1, l1, rfl⟩ := hE1.ne
      have H3 := Lib.hid h3
      have HRV := Lib.hid hRV
      have HG := Lib.hid hg
      have HE1 := Lib.hid hE1
      have zg := hg.size
      simp only [World.size_alloc] at zg
      clear h3 hRV hg hE1
      by_cases hs : sgnOf (t1 :: l1) = [47]
      · obtain ⟨hk5, _⟩ := sgn_kind (t := t1) (rs := l1) (by rw [hs]; decide)
        obtain ⟨u1, l2, rfl, hE4⟩ := HE1.out.more (by omega)
        have HE4 := Lib.hid hE4
        have HS := Lib.hid hs
        clear hs hk5 hE4
        repeat (first | go_values | go_skip | go_guarded | go_step | go_upon)
        refine (ssign_is H3.out HS.out).mono ?_
        rintro e w2 ⟨rfl, hb2⟩
        have H4 := Lib.hid (H3.out.below hb2)
        have HRV2 := Lib.hid (HRV.out.below hb2)
        have HG2 := Lib.hid (gby_below HG.out hb2)
        have zb := hb2.size
        dsimp only
        repeat (first | go_values | go_skip | go_guarded | go_step | go_upon)
        refine (snext_any H4.out).mono ?_
        rintro e w3 ⟨rfl, h5, g5⟩
        have H5 := Lib.hid h5
        have HRV3 := Lib.hid (HRV2.out.gby g5 (by omega))
        have HG3 := Lib.hid (HG2.out.trans g5)
        have z5 := g5.size
        clear h5 g5
        dsimp only
        repeat (first | go_values | go_skip | go_guarded | go_step | go_upon)
        refine (row_any H5.out hd HE4.out (fun l hl => HI.out l (by simp at hl1 hl; omega)) (by simp at hl1 ⊢; omega)).mono ?_
        rintro e w4 ⟨f, r, hf, hr⟩
        cases r with
        | err ec ex =>
          obtain ⟨⟨p, rfl, hp, hl⟩, g2⟩ := hr
          obtain ⟨f', hf'⟩ := hon.out.err HS.out hf
          dsimp only
          repeat (first | go_values | go_skip | go_guarded | go_step | go_upon)
          exact ⟨rfl, f', _, hf', ⟨p, rfl, hp, by omega⟩, (below_gby _ (bal (Below.refl _ _) _)).trans (HG3.out.trans g2)⟩
        | ok n1 rs3 =>
          obtain ⟨cc, rfl, hrep, ⟨o4, c4, h6⟩, g6, hE5, hlen5⟩ := hr
          obtain ⟨k1, t2, x1, v1, l3, e1, e2, h7⟩ := hrep.form
          obtain ⟨sa1, sn1, sc1, rfl⟩ := h7.slice
          obtain rfl : cc = (ndC k1 t2 x1 (.slice sa1 sn1 sc1) n1.pos).toArray := by rw [← e2]
          have HO := Lib.hid (hon.out.next HS.out hf)
          have H6 := Lib.hid h6
          have hlo := Lib.hid (fun k hk => (HRV3.out.own.lt k hk).2)
          have HRV4 := Lib.hid (HRV3.out.gby g6 (by omega))
          have HG4 := Lib.hid (HG3.out.trans g6)
          have HR := Lib.hid (rep_wide hrep (P' := Blk w3.heap.size w4.heap.size) (fun b hb => ⟨hb.lo, hb.hi⟩))
          have z6 := g6.size
          have HE5 := Lib.hid hE5
          obtain ⟨i0, iH, iz, is, ib⟩ := info_parts info_node
          have HN := Lib.hid (heap_alloc_new w4 (.cells (ndC k1 t2 x1 (.slice sa1 sn1 sc1) n1.pos).toArray 40))
          have hn9 : ns.length ≤ 9001 := by omega
          have hB4 : w.heap.size + 1 ≤ w4.heap.size := by omega
          clear h6 g6 hrep e1 e2 h7 hE5 hf
          dsimp only [ndC]
          repeat (first | (at_builtin; refine wpList_append_lies _ rfl _ _ 38 rfl (w.heap.size + 1) 40 i0 _ 8 88 Tryz.underlying38 iH iz is ib rfl (by decide) _ ns.length _ rfl (HRV4.out.own.alloc _) ⟨w4.heap.size, 0, none⟩ 1 1 (ndC k1 t2 x1 (.slice sa1 sn1 sc1) n1.pos) rfl rfl (World.news_of_block (cs := (ndC k1 t2 x1 (.slice sa1 sn1 sc1) n1.pos).toArray) (t := 40) (fr := (0, 0)) HN.out) (by simp [ndC, Value.oneCell']) (by decide) (by unfold maxLen; omega) (by omega) (by simp; omega) (w4.heap.size + 1) (by simp) ?_; intro gg cap w5 hown5 hgrow hat hlt) | go_values | go_skip | go_guarded | go_step | go_upon)
          have HX := Lib.hid (show ChI R g d w rs (ns ++ [n1]) rs3 (.slice (some ⟨gg, 0, none⟩) (ns.length + 1) cap) w5 from
            ⟨⟨o4, c4, (H6.out.alloc _).row hgrow (fun e => by have := (HRV3.out.own.lt R e).1; omega) (fun e => by have := (HRV3.out.own.lt g e).1; omega)⟩, ⟨_, HRV4.out.push hgrow hat hlo.out (by omega) HR.out hown5⟩, gby_row (gby_alloc HG4.out _) hgrow (fun k hk => by have := (HRV3.out.own.lt k hk).1; simp; omega), HE5.out, by simp, by simp at hl1 hlen5 ⊢; omega⟩)
          refine ⟨⟨_, _, HX.out, HO⟩, ?_⟩
          rw [HX.out.meas, HCI.out.meas]
          simp at hlen5 ⊢
          omega
      · have s1 : ((mkS (sgnOf (t1 :: l1))).toList == [47]) = false := by rw [sgn_str]; simpa using hs
        obtain ⟨f', hf'⟩ := hon.out.stop hs
        have HF := Lib.hid hf'
        have hN0 := (HG.out.block w.heap.size (by simp) (fun e => by have := Option.some.inj e; omega)).trans (heap_alloc_new _ _)
        rcases owns_form2 HRV.out.own with ⟨hn0, rfl⟩ | ⟨g3, cap3, rfl⟩
        · omega
        obtain ⟨hBg, _, cur, hcur, _⟩ := owns_block HRV.out.own
        have hgl : g3 < wr.heap.size := (Array.getElem?_eq_some_iff.1 hcur).1
        have HN0 := Lib.hid hN0
        clear hs hf' hN0 hcur hon
        repeat (first | go_values | go_skip | go_guarded | go_step | go_upon)
        refine (ssign_any H3.out).mono ?_
        rintro e w2 ⟨rfl, hb2⟩
        have HRV2 := Lib.hid (HRV.out.below hb2)
        have z2b := hb2.size
        have HNb := Lib.hid ((hb2.block w.heap.size (by omega)).trans HN0.out)
        have H4 := Lib.hid (H3.out.below hb2)
        have G4 := Lib.hid (gby_below HG.out hb2)
        clear hb2
        dsimp only
        repeat (first | go_values | go_skip | go_guarded | go_step | go_upon)
        refine (joined_any 7 hpos rfl (by omega) HRV2.out.own HRV2.out.reps (fun b hb => hb.2.1)).mono ?_
        rintro e w3 ⟨jv, rfl, ⟨cj, rfl, hrep⟩, hb3⟩
        obtain ⟨k1, t2, x1, v1, l2, e1, e2, h7⟩ := hrep.form
        obtain ⟨sa1, sn1, sc1, rfl⟩ := h7.slice
        subst e2
        have HR := Lib.hid hrep
        have hNb := (hb3.block w.heap.size (by omega)).trans HNb.out
        have H5 := Lib.hid (H4.out.below hb3)
        have G5 := Lib.hid ((below_gby (some R) (bal (Below.refl _ w) _)).trans (gby_below G4.out hb3))
        have n0 : w3.cell? ⟨w.heap.size, 0, none⟩ = some (.int .i64 0) := (cells_at hNb).1 0
        have n1 : w3.cell? ⟨w.heap.size, 1, none⟩ = some (.string ⟨#[]⟩) := (cells_at hNb).1 1
        have n2 : w3.cell? ⟨w.heap.size, 2, none⟩ = some (.int .u64 0) := (cells_at hNb).1 2
        have n3 : w3.cell? ⟨w.heap.size, 3, none⟩ = some (.int .u64 0) := (cells_at hNb).1 3
        have n4 : w3.cell? ⟨w.heap.size, 4, none⟩ = some (.int .u64 0) := (cells_at hNb).1 4
        have n5 : w3.cell? ⟨w.heap.size, 5, none⟩ = some (.int .u64 0) := (cells_at hNb).1 5
        have n6 : w3.cell? ⟨w.heap.size, 6, none⟩ = some (.slice none 0 0) := (cells_at hNb).1 6
        have n7 : w3.cell? ⟨w.heap.size, 7, none⟩ = some (.int .i64 0) := (cells_at hNb).1 7
        have nf := (cells_at hNb).2.1
        have qn := (cells_at hNb).2.2
        have z3 := hb3.size
        clear hrep e1 h7 hNb hb3
        dsimp only [ndC]
        repeat (first | go_values | go_skip | go_guarded | go_step | go_upon)
        refine bodyPost_ret (v := .agg (ndC k1 t2 x1 (.slice sa1 sn1 sc1) (joinN 7 ns).pos).toArray) (by simp [ndC, results, Tryz.results45, go_sem, n0, n1, n2, n3, n4, n5, n6, n7]) rfl ?_
        refine ⟨f', _, HF.out, (ndC k1 t2 x1 (.slice sa1 sn1 sc1) (joinN 7 ns).pos).toArray, rfl, ?_, ⟨o3, c3, ?_⟩, ?_, HE1.out, by omega⟩
        · refine rep_wide (P := Blk (w.heap.size + 1) w3.heap.size) ?_ (fun b h => h.fresh (by omega) (by simp))
          repeat (with_reducible refine rep_set ?_ (fun b h => by have := h.lo; omega) _ _)
          refine rep_wide HR.out (fun b h => ?_)
          rcases h with h | rfl
          · exact ⟨by have := h.1; omega, by have := h.2.1; omega⟩
          · exact ⟨by omega, by omega⟩
        · repeat (with_reducible refine SR.set ?_ (by omega) (by omega) _ _)
          exact H5.out
        · repeat (with_reducible refine gby_set ?_ (Nat.le_refl _) _ _)
          exact G5.out
theorem choice_c (R g : Nat) : ∀ n : Nat, ∀ rs : List Tok, rs.length ≤ n → rs.length ≤ 9000 → ChoiceC R g rs := by
  intro n
  induction n with
  | zero =>
    intro rs h1 _ o c d w _ _ hE
    obtain ⟨u, l, rfl⟩ := hE.ne
    simp at h1
  | succ n ih =>
    intro rs h1 h2 o c d w h hd hE
    exact choice_any h hd hE (fun l hl => ih l (by omega) (by omega)) h2
end Go.Proofs.YtjlcoldnhbkcgaaGreatDoor
