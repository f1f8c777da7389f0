/- The walk of choice; its contract at any tokens. | Reading rules, plain; a grammar in memory, as it is built. | Two trees compared: where they are the same, with or without their places. -/
import Derived.Test.YtlohpplpnddfaaaDoorG14
import Derived.Test.YtlohpplpnddfaaaDoorG11
namespace Go.Proofs.YtlohpplpnddfaaaDoor
open Go.RowKit Go.Sort

/-- A row of trees in a slot: its own block, and the trees' blocks beside it, from a number on. -/
structure RV (B : Nat) (ns : List Nd) (v : Value) (cs : List Value) (w : World) : Prop where
  own : w.ownsRow B 67 8 v ns.length cs
  reps : Reps w (fun b => B ≤ b ∧ b < w.heap.size ∧ v.ownBlock ≠ some b) ns cs
theorem RV.gby {B R : Nat} {ns : List Nd} {v : Value} {cs : List Value} {w w' : World} (h : RV B ns v cs w) (hg : w.grownBy w' (some R)) (hR : R < B) : RV B ns v cs w' := by
  refine ⟨h.own.kept hg ?_, Reps.mono (fun b hb => hg.block b hb.2.1 (fun e => by have := Option.some.inj e; have := hb.1; omega)) (fun b hb => ⟨hb.1, Nat.lt_of_lt_of_le hb.2.1 hg.size, hb.2.2⟩) h.reps⟩
  cases hb : v.ownBlock with
  | none => left; rfl
  | some k => right; have := (h.own.lt k hb).1; simp; omega
theorem RV.below {B : Nat} {ns : List Nd} {v : Value} {cs : List Value} {w w' : World} (h : RV B ns v cs w) (hb : Below w.heap.size w w') : RV B ns v cs w' :=
  ⟨owns_below h.own hb, Reps.mono (fun b h => hb.block b h.2.1) (fun _ h => ⟨h.1, Nat.lt_of_lt_of_le h.2.1 hb.size, h.2.2⟩) h.reps⟩
/-- One tree in a new row. -/
theorem RV.one {B : Nat} {n : Nd} {c : List Value} {w : World} (hn : Rep w (Blk B w.heap.size) n c) (hB : B ≤ w.heap.size) (hc : c.length = 8) : RV B [n] (.slice (some ⟨w.heap.size, 0, none⟩) 1 1) c (w.alloc (.cells c.toArray 67)) := by
  refine ⟨World.ownsRow_lit w c.toArray 1 hB (by unfold maxLen; decide) (by simp; omega), ?_⟩
  have h1 : Reps (w.alloc (.cells c.toArray 67)) (fun b => B ≤ b ∧ b < (w.alloc (.cells c.toArray 67)).heap.size ∧ (Value.slice (some ⟨w.heap.size, 0, none⟩) 1 1).ownBlock ≠ some b) [n] (c ++ []) := by
    refine .cons (Rep.mono (fun b hb => RowKit.Below.heap_alloc _ _ _ hb.hi) (fun b hb => ⟨hb.lo, by have := hb.hi; rw [World.size_alloc]; omega, fun e => by have := hb.hi; have e2 : w.heap.size = b := Option.some.inj e; omega⟩) hn) .nil
  simpa using h1
theorem RV.push {B gg cap lo : Nat} {ns : List Nd} {n : Nd} {v : Value} {cs c : List Value} {o : Obj} {w w4 : World} (h : RV B ns v cs w) (hg : (w.alloc o).grownBy w4 v.ownBlock) (hat : v.ownBlock = some gg ∨ gg = w.heap.size + 1)
    (hlo : ∀ k, v.ownBlock = some k → k < lo) (hBl : B ≤ lo) (hn : Rep w (Blk lo w.heap.size) n c)
    (hown : w4.ownsRow B 67 8 (.slice (some ⟨gg, 0, none⟩) (ns.length + 1) cap) (ns.length + 1) (cs ++ c)) : RV B (ns ++ [n]) (.slice (some ⟨gg, 0, none⟩) (ns.length + 1) cap) (cs ++ c) w4 := by
  have hz := hg.size
  simp at hz
  have key : ∀ b, B ≤ b → b < w.heap.size → v.ownBlock ≠ some b → b ≠ gg ∧ w4.heap[b]? = w.heap[b]? := by
    intro b h1 h2 h3
    have hne : b ≠ gg := by
      rintro rfl
      rcases hat with e | e
      · exact h3 e
      · omega
    refine ⟨hne, ?_⟩
    rw [hg.block b (by simp; omega) (fun e => h3 e.symm)]
    exact RowKit.Below.heap_alloc _ _ _ h2
  refine ⟨by rw [List.length_append]; exact hown, Reps.snoc ?_ ?_⟩
  · exact Reps.mono (fun b hb => (key b hb.1 hb.2.1 hb.2.2).2) (fun b hb => ⟨hb.1, by have := hb.2.1; omega, fun e => (key b hb.1 hb.2.1 hb.2.2).1 (Option.some.inj e).symm⟩) h.reps
  · have k2 : ∀ b, Blk lo w.heap.size b → v.ownBlock ≠ some b := fun b hb e => by have := hlo b e; have := hb.lo; omega
    exact Rep.mono (fun b hb => (key b (by have := hb.lo; omega) hb.hi (k2 b hb)).2) (fun b hb => ⟨by have := hb.lo; omega, by have := hb.hi; omega, fun e => (key b (by have := hb.lo; omega) hb.hi (k2 b hb)).1 (Option.some.inj e).symm⟩) hn
/-- From a state of a choice on, its end is the choice's. -/
def AltsOn (d : Nat) (rs rs' : List Tok) (ns : List Nd) : Prop := ∀ f r, pAlts f d rs' ns = some r → ∃ f', pChoice f' d rs = some r
theorem AltsOn.start {d f : Nat} {rs rs2 : List Tok} {n : Nd} (hp : pParts f d rs [] = some (.ok n rs2)) : AltsOn d rs rs2 [n] := fun f2 r h2 => ⟨f + f2 + 1, by
  rw [pChoice, pParts_mono hp (by omega)]
  exact pAlts_mono h2 (by omega)⟩
theorem AltsOn.stop {d : Nat} {rs rs' : List Tok} {ns : List Nd} (h : AltsOn d rs rs' ns) (hs : sgnOf rs' ≠ [47]) : ∃ f', pChoice f' d rs = some (.ok (joinN 7 ns) rs') := h 1 _ (by rw [pAlts, if_neg hs])
theorem AltsOn.err {d f c x : Nat} {rs rs' : List Tok} {ns : List Nd} (h : AltsOn d rs rs' ns) (hs : sgnOf rs' = [47]) (hp : pParts f d rs'.tail [] = some (.err c x)) : ∃ f', pChoice f' d rs = some (.err c x) := h (f + 1) _ (by rw [pAlts, if_pos hs, hp])
theorem AltsOn.next {d f : Nat} {rs rs' rs2 : List Tok} {ns : List Nd} {n : Nd} (h : AltsOn d rs rs' ns) (hs : sgnOf rs' = [47]) (hp : pParts f d rs'.tail [] = some (.ok n rs2)) : AltsOn d rs rs2 (ns ++ [n]) := fun f2 r h2 => h (f + f2 + 1) r (by
  rw [pAlts, if_pos hs, pParts_mono hp (by omega)]
  exact pAlts_mono h2 (by omega))
/-- The state of a choice. -/
structure ChI (R g d : Nat) (w : World) (rs : List Tok) (ns : List Nd) (rs' : List Tok) (v : Value) (wr : World) : Prop where
  rd : ∃ o c, SR R g o c d rs' wr
  row : ∃ cs, RV (w.heap.size + 1) ns v cs wr
  grow : (w.alloc (.cells #[.int .i64 0, .string ⟨#[]⟩, .int .u64 0, .int .u64 0, .int .u64 0, .int .u64 0, .slice none 0 0, .int .i64 0] 67)).grownBy wr (some R)
  ends : EndsT rs'
  pos : 0 < ns.length
  len : ns.length + rs'.length ≤ rs.length + 1
theorem ChI.meas {R g d : Nat} {w : World} {rs : List Tok} {ns : List Nd} {rs' : List Tok} {v : Value} {wr : World} (h : ChI R g d w rs ns rs' v wr) : slLen ((wr.cell? ⟨R, 0, none⟩).getD undef) = rs'.length := by
  obtain ⟨o, c, hs⟩ := h.rd
  rw [hs.cells.1]; rfl
set_option maxRecDepth 100000 in
set_option maxHeartbeats 6400000 in
theorem choice_any {R g o c d : Nat} {rs : List Tok} {w : World} (h : SR R g o c d rs w) (hd : d ≤ 24) (hE : EndsT rs) (IH : ∀ l : List Tok, l.length < rs.length → ChoiceC R g l) (hlen : rs.length ≤ 9000) :
    Calls Tryd.prog 74 #[.pointer (some ⟨R, 0, none⟩)] w (fun e w' => ∃ f r, pChoice f d rs = some r ∧ NdP R g d rs.length w e w' r) := by
  have HI := Lib.hid IH
  have HE := Lib.hid hE
  have HH := Lib.hid h
  have qR := h.ltR
  have qg := h.lt
  have hm1 := cell_alloc_lt
  have hm2 := frozen_alloc_lt
  clear h hE IH
  go_enter Tryd.func74, Tryd.ntmps74
  repeat (first | go_values | go_skip | go_guarded | go_step | go_upon)
  refine (row_any (HH.out.alloc _) hd HE.out HI.out hlen).mono ?_
  rintro e w1 ⟨f, r, hf, hr⟩
  cases r with
  | err ec ex =>
    obtain ⟨⟨p, rfl, hp, hl⟩, g2⟩ := hr
    simp only [World.size_alloc] at hl
    dsimp only
    repeat (first | go_values | go_skip | go_guarded | go_step | go_upon)
    exact ⟨rfl, f + 1, .err ec ex, by rw [pChoice, hf], ⟨p, rfl, hp, by omega⟩, (below_gby _ (bal (Below.refl _ _) _)).trans g2⟩
  | ok n rs2 =>
    obtain ⟨cc, rfl, hrep, ⟨o2, c2, h2⟩, g2, hE3, hlen2⟩ := hr
    obtain ⟨k0, t0, x0, v0, l0, e1, e2, h3⟩ := hrep.form
    obtain ⟨sa, sn, sc, rfl⟩ := h3.slice
    obtain rfl : cc = (ndC k0 t0 x0 (.slice sa sn sc) n.pos).toArray := by rw [← e2]
    have z2 := g2.size
    simp only [World.size_alloc] at z2
    have HC0 := Lib.hid (show ChI R g d w rs [n] rs2 (.slice (some ⟨w1.heap.size, 0, none⟩) 1 1) (w1.alloc (.cells (ndC k0 t0 x0 (.slice sa sn sc) n.pos).toArray 67)) from
      ⟨⟨o2, c2, h2.alloc _⟩, ⟨_, RV.one (rep_wide hrep (fun b hb => ⟨by have := hb.lo; simp at this; omega, hb.hi⟩)) (by omega) rfl⟩, gby_alloc g2 _, hE3, by simp, by simp; omega⟩)
    have HA := Lib.hid (AltsOn.start hf)
    clear h2 g2 hrep e1 e2 h3 hE3 hf
    dsimp only [ndC]
    repeat (first | go_values | go_skip | go_guarded | go_step | go_upon)
    go_loopw [3] (fun v wr => ∃ (ns : List Nd) (rs' : List Tok), ChI R g d w rs ns rs' v wr ∧ Hid (AltsOn d rs rs' ns)) (fun _ wr => slLen ((wr.cell? ⟨R, 0, none⟩).getD undef))
    case atStart => exact ⟨[n], rs2, HC0.out, HA⟩
    case round =>
      obtain ⟨ns, rs', hI, hon⟩ := hrel
      have HCI := Lib.hid hI
      obtain ⟨⟨o3, c3, h3⟩, ⟨cs, hRV⟩, hg, hE1, hpos, hl1⟩ := hI
      obtain ⟨t1, l1, rfl⟩ := hE1.ne
      have H3 := Lib.hid h3
      have HRV := Lib.hid hRV
      have HG := Lib.hid hg
      have HE1 := Lib.hid hE1
      have zg := hg.size
      simp only [World.size_alloc] at zg
      clear h3 hRV hg hE1
      by_cases hs : sgnOf (t1 :: l1) = [47]
      · obtain ⟨hk5, _⟩ := sgn_kind (t := t1) (rs := l1) (by rw [hs]; decide)
        obtain ⟨u1, l2, rfl, hE4⟩ := HE1.out.more (by omega)
        have HE4 := Lib.hid hE4
        have HS := Lib.hid hs
        clear hs hk5 hE4
        repeat (first | go_values | go_skip | go_guarded | go_step | go_upon)
        refine (ssign_is H3.out HS.out).mono ?_
        rintro e w2 ⟨rfl, hb2⟩
        have H4 := Lib.hid (H3.out.below hb2)
        have HRV2 := Lib.hid (HRV.out.below hb2)
        have HG2 := Lib.hid (gby_below HG.out hb2)
        have zb := hb2.size
        dsimp only
        repeat (first | go_values | go_skip | go_guarded | go_step | go_upon)
        refine (snext_any H4.out).mono ?_
        rintro e w3 ⟨rfl, h5, g5⟩
        have H5 := Lib.hid h5
        have HRV3 := Lib.hid (HRV2.out.gby g5 (by omega))
        have HG3 := Lib.hid (HG2.out.trans g5)
        have z5 := g5.size
        clear h5 g5
        dsimp only
        repeat (first | go_values | go_skip | go_guarded | go_step | go_upon)
        refine (row_any H5.out hd HE4.out (fun l hl => HI.out l (by simp at hl1 hl; omega)) (by simp at hl1 ⊢; omega)).mono ?_
        rintro e w4 ⟨f, r, hf, hr⟩
        cases r with
        | err ec ex =>
          obtain ⟨⟨p, rfl, hp, hl⟩, g2⟩ := hr
          obtain ⟨f', hf'⟩ := hon.out.err HS.out hf
          dsimp only
          repeat (first | go_values | go_skip | go_guarded | go_step | go_upon)
          exact ⟨rfl, f', _, hf', ⟨p, rfl, hp, by omega⟩, (below_gby _ (bal (Below.refl _ _) _)).trans (HG3.out.trans g2)⟩
        | ok n1 rs3 =>
          obtain ⟨cc, rfl, hrep, ⟨o4, c4, h6⟩, g6, hE5, hlen5⟩ := hr
          obtain ⟨k1, t2, x1, v1, l3, e1, e2, h7⟩ := hrep.form
          obtain ⟨sa1, sn1, sc1, rfl⟩ := h7.slice
          obtain rfl : cc = (ndC k1 t2 x1 (.slice sa1 sn1 sc1) n1.pos).toArray := by rw [← e2]
          have HO := Lib.hid (hon.out.next HS.out hf)
          have H6 := Lib.hid h6
          have hlo := Lib.hid (fun k hk => (HRV3.out.own.lt k hk).2)
          have HRV4 := Lib.hid (HRV3.out.gby g6 (by omega))
          have HG4 := Lib.hid (HG3.out.trans g6)
          have HR := Lib.hid (rep_wide hrep (P' := Blk w3.heap.size w4.heap.size) (fun b hb => ⟨hb.lo, hb.hi⟩))
          have z6 := g6.size
          have HE5 := Lib.hid hE5
          obtain ⟨i0, iH, iz, is, ib⟩ := info_parts info_node
          have HN := Lib.hid (heap_alloc_new w4 (.cells (ndC k1 t2 x1 (.slice sa1 sn1 sc1) n1.pos).toArray 67))
          have hn9 : ns.length ≤ 9001 := by omega
          have hB4 : w.heap.size + 1 ≤ w4.heap.size := by omega
          clear h6 g6 hrep e1 e2 h7 hE5 hf
          dsimp only [ndC]
          repeat (first | (at_builtin; refine wpList_append_lies _ rfl _ _ 65 rfl (w.heap.size + 1) 67 i0 _ 8 88 Tryd.underlying65 iH iz is ib rfl (by decide) _ ns.length _ rfl (HRV4.out.own.alloc _) ⟨w4.heap.size, 0, none⟩ 1 1 (ndC k1 t2 x1 (.slice sa1 sn1 sc1) n1.pos) rfl rfl (World.news_of_block (cs := (ndC k1 t2 x1 (.slice sa1 sn1 sc1) n1.pos).toArray) (t := 67) (fr := (0, 0)) HN.out) (by simp [ndC, Value.oneCell']) (by decide) (by unfold maxLen; omega) (by omega) (by simp; omega) (w4.heap.size + 1) (by simp) ?_; intro gg cap w5 hown5 hgrow hat hlt) | go_values | go_skip | go_guarded | go_step | go_upon)
          have HX := Lib.hid (show ChI R g d w rs (ns ++ [n1]) rs3 (.slice (some ⟨gg, 0, none⟩) (ns.length + 1) cap) w5 from
            ⟨⟨o4, c4, (H6.out.alloc _).row hgrow (fun e => by have := (HRV3.out.own.lt R e).1; omega) (fun e => by have := (HRV3.out.own.lt g e).1; omega)⟩, ⟨_, HRV4.out.push hgrow hat hlo.out (by omega) HR.out hown5⟩, gby_row (gby_alloc HG4.out _) hgrow (fun k hk => by have := (HRV3.out.own.lt k hk).1; simp; omega), HE5.out, by simp, by simp at hl1 hlen5 ⊢; omega⟩)
          refine ⟨⟨_, _, HX.out, HO⟩, ?_⟩
          rw [HX.out.meas, HCI.out.meas]
          simp at hlen5 ⊢
          omega
      · have s1 : ((mkS (sgnOf (t1 :: l1))).toList == [47]) = false := by rw [sgn_str]; simpa using hs
        obtain ⟨f', hf'⟩ := hon.out.stop hs
        have HF := Lib.hid hf'
        have hN0 := (HG.out.block w.heap.size (by simp) (fun e => by have := Option.some.inj e; omega)).trans (heap_alloc_new _ _)
        rcases owns_form2 HRV.out.own with ⟨hn0, rfl⟩ | ⟨g3, cap3, rfl⟩
        · omega
        obtain ⟨hBg, _, cur, hcur, _⟩ := owns_block HRV.out.own
        have hgl : g3 < wr.heap.size := (Array.getElem?_eq_some_iff.1 hcur).1
        have HN0 := Lib.hid hN0
        clear hs hf' hN0 hcur hon
        repeat (first | go_values | go_skip | go_guarded | go_step | go_upon)
        refine (ssign_any H3.out).mono ?_
        rintro e w2 ⟨rfl, hb2⟩
        have HRV2 := Lib.hid (HRV.out.below hb2)
        have z2b := hb2.size
        have HNb := Lib.hid ((hb2.block w.heap.size (by omega)).trans HN0.out)
        have H4 := Lib.hid (H3.out.below hb2)
        have G4 := Lib.hid (gby_below HG.out hb2)
        clear hb2
        dsimp only
        repeat (first | go_values | go_skip | go_guarded | go_step | go_upon)
        refine (joined_any 7 hpos rfl (by omega) HRV2.out.own HRV2.out.reps (fun b hb => hb.2.1)).mono ?_
        rintro e w3 ⟨jv, rfl, ⟨cj, rfl, hrep⟩, hb3⟩
        obtain ⟨k1, t2, x1, v1, l2, e1, e2, h7⟩ := hrep.form
        obtain ⟨sa1, sn1, sc1, rfl⟩ := h7.slice
        subst e2
        have HR := Lib.hid hrep
        have hNb := (hb3.block w.heap.size (by omega)).trans HNb.out
        have H5 := Lib.hid (H4.out.below hb3)
        have G5 := Lib.hid ((below_gby (some R) (bal (Below.refl _ w) _)).trans (gby_below G4.out hb3))
        have n0 : w3.cell? ⟨w.heap.size, 0, none⟩ = some (.int .i64 0) := (cells_at hNb).1 0
        have n1 : w3.cell? ⟨w.heap.size, 1, none⟩ = some (.string ⟨#[]⟩) := (cells_at hNb).1 1
        have n2 : w3.cell? ⟨w.heap.size, 2, none⟩ = some (.int .u64 0) := (cells_at hNb).1 2
        have n3 : w3.cell? ⟨w.heap.size, 3, none⟩ = some (.int .u64 0) := (cells_at hNb).1 3
        have n4 : w3.cell? ⟨w.heap.size, 4, none⟩ = some (.int .u64 0) := (cells_at hNb).1 4
        have n5 : w3.cell? ⟨w.heap.size, 5, none⟩ = some (.int .u64 0) := (cells_at hNb).1 5
        have n6 : w3.cell? ⟨w.heap.size, 6, none⟩ = some (.slice none 0 0) := (cells_at hNb).1 6
        have n7 : w3.cell? ⟨w.heap.size, 7, none⟩ = some (.int .i64 0) := (cells_at hNb).1 7
        have nf := (cells_at hNb).2.1
        have qn := (cells_at hNb).2.2
        have z3 := hb3.size
        clear hrep e1 h7 hNb hb3
        dsimp only [ndC]
        repeat (first | go_values | go_skip | go_guarded | go_step | go_upon)
        refine bodyPost_ret (v := .agg (ndC k1 t2 x1 (.slice sa1 sn1 sc1) (joinN 7 ns).pos).toArray) (by simp [ndC, results, Tryd.results74, go_sem, n0, n1, n2, n3, n4, n5, n6, n7]) rfl ?_
        refine ⟨f', _, HF.out, (ndC k1 t2 x1 (.slice sa1 sn1 sc1) (joinN 7 ns).pos).toArray, rfl, ?_, ⟨o3, c3, ?_⟩, ?_, HE1.out, by omega⟩
        · refine rep_wide (P := Blk (w.heap.size + 1) w3.heap.size) ?_ (fun b h => h.fresh (by omega) (by simp))
          repeat (with_reducible refine rep_set ?_ (fun b h => by have := h.lo; omega) _ _)
          refine rep_wide HR.out (fun b h => ?_)
          rcases h with h | rfl
          · exact ⟨by have := h.1; omega, by have := h.2.1; omega⟩
          · exact ⟨by omega, by omega⟩
        · repeat (with_reducible refine SR.set ?_ (by omega) (by omega) _ _)
          exact H5.out
        · repeat (with_reducible refine gby_set ?_ (Nat.le_refl _) _ _)
          exact G5.out
theorem choice_c (R g : Nat) : ∀ n : Nat, ∀ rs : List Tok, rs.length ≤ n → rs.length ≤ 9000 → ChoiceC R g rs := by
  intro n
  induction n with
  | zero =>
    intro rs h1 _ o c d w _ _ hE
    obtain ⟨u, l, rfl⟩ := hE.ne
    simp at h1
  | succ n ih =>
    intro rs h1 h2 o c d w h hd hE
    exact choice_any h hd hE (fun l hl => ih l (by omega) (by omega)) h2
end Go.Proofs.YtlohpplpnddfaaaDoor
namespace Go.Proofs.YtlohpplpnddfaaaDoor
open Go.RowKit Go.Sort

theorem tokAt_kind {s : List UInt8} {a n : Nat} {t : Tok} (e : tokAt s a = .inr (t, n)) : t.kind ≠ 6 := by
  unfold tokAt at e
  split at e
  · cases e
  split at e
  · simp at e; obtain ⟨e1, _⟩ := e; subst e1; simp
  split at e
  · simp at e; obtain ⟨e1, _⟩ := e; subst e1; simp
  split at e
  · simp at e; obtain ⟨e1, _⟩ := e; subst e1; simp
  split at e
  · split at e
    · cases e
    · simp at e; obtain ⟨e1, _⟩ := e; subst e1; simp
  split at e
  · split at e
    · cases e
    · simp at e; obtain ⟨e1, _⟩ := e; subst e1; simp
  cases e
theorem ends_snoc {l : List Tok} (h : ∀ t ∈ l, t.kind ≠ 6) {e : Tok} (he : e.kind = 6) : EndsT (l ++ [e]) := by
  induction l with
  | nil => exact he
  | cons t l ih =>
    have h1 := ih (fun u hu => h u (by simp [hu]))
    have h2 := h t (by simp)
    cases hl : l ++ [e] with
    | nil => simp at hl
    | cons u m =>
      rw [hl] at h1
      rw [List.cons_append, hl]
      exact ⟨h2, h1⟩
theorem toksGo_ends {s : List UInt8} : ∀ {f a : Nat} {l m : List Tok}, toksGo s f a l = .inr m → a ≤ s.length → l.length ≤ a → (∀ t ∈ l, t.kind ≠ 6) → EndsT m ∧ m.length ≤ s.length + 1 := by
  intro f
  induction f with
  | zero => intro a l m h _ _ _; cases h
  | succ f ih =>
    intro a l m h ha hl hk
    rw [toksGo] at h
    split at h
    · have e := Sum.inr.inj h
      subst e
      exact ⟨ends_snoc hk rfl, by simp; omega⟩
    next h1 =>
    split at h
    · next h2 =>
      have := noteEnd_bd (s := s) (a := a) (by omega) (by rw [h2]; decide)
      exact ih h (by omega) (by omega) hk
    next h2 =>
    split at h
    · exact ih h (by omega) (by omega) hk
    split at h
    · cases h
    · next t n e =>
      have hb := tokAt_bd (by omega) e
      refine ih h (by omega) (by simp; omega) (fun u hu => ?_)
      rcases List.mem_append.1 hu with hu | hu
      · exact hk u hu
      · rw [List.mem_singleton.1 hu]; exact tokAt_kind e
theorem toks_ends {s : List UInt8} {l : List Tok} (h : toks s = .inr l) : EndsT l ∧ l.length ≤ s.length + 1 := toksGo_ends h (Nat.zero_le _) (Nat.le_refl _) (fun _ h => by cases h)
/-- A rule. -/
structure Ru where
  name : List UInt8
  body : Nd
  pos : Nat
def nameT : List Tok → List UInt8
  | [] => []
  | t :: _ => t.text
def pRules : Nat → List Tok → List Ru → Option (PR (List Ru))
  | 0, _, _ => none
  | f + 1, rs, l =>
    if l.length ≠ 0 ∧ kindT rs = 6 then some (.ok l rs)
    else if l.length = 64 ∧ kindT rs = 1 then some (.err 2 (posT rs))
    else if kindT rs ≠ 1 then some (.err (badE rs) (posT rs))
    else if kindT rs.tail ≠ 2 then some (.err (badE rs.tail) (posT rs.tail))
    else match pChoice f 0 rs.tail.tail with
      | none => none
      | some (.err c x) => some (.err c x)
      | some (.ok n rs2) => pRules f rs2 (l ++ [⟨nameT rs, n, posT rs⟩])
theorem pRules_mono1 : ∀ (f : Nat) (rs : List Tok) (l : List Ru) (r : PR (List Ru)), pRules f rs l = some r → pRules (f + 1) rs l = some r := by
  intro f
  induction f with
  | zero => intro rs l r h; cases h
  | succ f ih =>
    intro rs l r h
    rw [pRules] at h ⊢
    split at h
    · next h1 => rw [if_pos h1]; exact h
    next h1 =>
    rw [if_neg h1]
    split at h
    · next h2 => rw [if_pos h2]; exact h
    next h2 =>
    rw [if_neg h2]
    split at h
    · next h3 => rw [if_pos h3]; exact h
    next h3 =>
    rw [if_neg h3]
    split at h
    · next h4 => rw [if_pos h4]; exact h
    next h4 =>
    rw [if_neg h4]
    cases e : pChoice f 0 rs.tail.tail with
    | none => rw [e] at h; cases h
    | some x =>
      rw [(p_mono1 f).1 _ _ _ e]
      rw [e] at h
      cases x with
      | err c x => exact h
      | ok n rs2 => exact ih _ _ _ h
theorem pRules_mono {f f' : Nat} {rs : List Tok} {l : List Ru} {r : PR (List Ru)} (h : pRules f rs l = some r) (hf : f ≤ f') : pRules f' rs l = some r := by
  obtain ⟨k, rfl⟩ := Nat.exists_eq_add_of_le hf
  clear hf
  induction k with
  | zero => exact h
  | succ k ih => exact pRules_mono1 _ _ _ _ ih
theorem pRules_det {f f' : Nat} {rs : List Tok} {l : List Ru} {r r' : PR (List Ru)} (h : pRules f rs l = some r) (h' : pRules f' rs l = some r') : r = r' := by
  have h1 := pRules_mono h (Nat.le_max_left f f')
  have h2 := pRules_mono h' (Nat.le_max_right f f')
  rw [h1] at h2
  exact Option.some.inj h2
/-- What a source is read as: what is wrong, and where, or the rules. -/
def Reads (s : List UInt8) (r : (Nat × Int) ⊕ List Ru) : Prop := match lexed s with
  | .inl er => r = .inl er
  | .inr l => ∃ f, (∃ c x, pRules f l [] = some (.err c x) ∧ r = .inl (c, (x : Int))) ∨ (∃ g rs, pRules f l [] = some (.ok g rs) ∧ r = .inr g)
theorem Reads.det {s : List UInt8} {r r' : (Nat × Int) ⊕ List Ru} (h : Reads s r) (h' : Reads s r') : r = r' := by
  unfold Reads at h h'
  cases e : lexed s with
  | inl er =>
    rw [e] at h h'
    exact Eq.trans h (Eq.symm h')
  | inr l =>
    rw [e] at h h'
    obtain ⟨f, h⟩ := h
    obtain ⟨f', h'⟩ := h'
    rcases h with ⟨c, x, h, rfl⟩ | ⟨g, rs, h, rfl⟩ <;> rcases h' with ⟨c', x', h', rfl⟩ | ⟨g', rs', h', rfl⟩ <;> have e := pRules_det h h' <;> cases e <;> rfl
/-- From a state of the rules on, their end is the source's. -/
def RulesOn (rs rs' : List Tok) (l : List Ru) : Prop := ∀ f r, pRules f rs' l = some r → ∃ f', pRules f' rs [] = some r
theorem RulesOn.next {f : Nat} {t a : Tok} {rs rs' rs2 : List Tok} {l : List Ru} {n : Nd} (h : RulesOn rs (t :: a :: rs') l) (h6 : t.kind = 1) (h64 : l.length ≠ 64) (ha : a.kind = 2) (hp : pChoice f 0 rs' = some (.ok n rs2)) : RulesOn rs rs2 (l ++ [⟨t.text, n, t.pos⟩]) := fun f2 r h2 => h (f + f2 + 1) r (by
  rw [pRules, if_neg (by show ¬ (_ ∧ t.kind = 6); omega), if_neg (by omega), if_neg (by show ¬ (t.kind ≠ 1); omega), if_neg (by show ¬ (a.kind ≠ 2); omega)]
  rw [show (t :: a :: rs').tail.tail = rs' from rfl, pChoice_mono hp (by omega)]
  exact pRules_mono h2 (by omega))
theorem RulesOn.err {f c x : Nat} {t a : Tok} {rs rs' : List Tok} {l : List Ru} (h : RulesOn rs (t :: a :: rs') l) (h6 : t.kind = 1) (h64 : l.length ≠ 64) (ha : a.kind = 2) (hp : pChoice f 0 rs' = some (.err c x)) : ∃ f', pRules f' rs [] = some (.err c x) := h (f + 1) _ (by
  rw [pRules, if_neg (by show ¬ (_ ∧ t.kind = 6); omega), if_neg (by omega), if_neg (by show ¬ (t.kind ≠ 1); omega), if_neg (by show ¬ (a.kind ≠ 2); omega)]
  rw [show (t :: a :: rs').tail.tail = rs' from rfl, hp])
theorem RulesOn.noArrow {t a : Tok} {rs rs' : List Tok} {l : List Ru} (h : RulesOn rs (t :: a :: rs') l) (h6 : t.kind = 1) (h64 : l.length ≠ 64) (ha : a.kind ≠ 2) : ∃ f', pRules f' rs [] = some (.err (badE (a :: rs')) a.pos) := h 1 _ (by
  rw [pRules, if_neg (by show ¬ (_ ∧ t.kind = 6); omega), if_neg (by omega), if_neg (by show ¬ (t.kind ≠ 1); omega), if_pos (by exact ha)]
  rfl)
theorem RulesOn.noName {t : Tok} {rs rs' : List Tok} {l : List Ru} (h : RulesOn rs (t :: rs') l) (h6 : l.length = 0 ∨ t.kind ≠ 6) (h1 : t.kind ≠ 1) : ∃ f', pRules f' rs [] = some (.err (badE (t :: rs')) t.pos) := h 1 _ (by
  rw [pRules, if_neg (by show ¬ (_ ∧ t.kind = 6); omega), if_neg (by show ¬ (_ ∧ t.kind = 1); omega), if_pos (by exact h1)]
  rfl)
theorem RulesOn.many {t : Tok} {rs rs' : List Tok} {l : List Ru} (h : RulesOn rs (t :: rs') l) (h64 : l.length = 64) (h1 : t.kind = 1) : ∃ f', pRules f' rs [] = some (.err 2 t.pos) := h 1 _ (by
  rw [pRules, if_neg (by show ¬ (_ ∧ t.kind = 6); omega), if_pos ⟨h64, h1⟩]
  rfl)
theorem RulesOn.stop {t : Tok} {rs rs' : List Tok} {l : List Ru} (h : RulesOn rs (t :: rs') l) (h0 : l.length ≠ 0) (h6 : t.kind = 6) : ∃ f', pRules f' rs [] = some (.ok l (t :: rs')) := h 1 _ (by
  rw [pRules, if_pos ⟨h0, h6⟩])
/-- These cells are those rules. -/
inductive RuReps (w : World) (P : Nat → Prop) : List Ru → List Value → Prop
  | nil : RuReps w P [] []
  | cons {x : Ru} {l : List Ru} {c cs : List Value} : Rep w P x.body c → RuReps w P l cs → RuReps w P (x :: l) ((.string (mkS x.name) :: (c ++ [.int .i64 (x.pos : Int)])) ++ cs)
theorem RuReps.mono {w w' : World} {P P' : Nat → Prop} (hb : ∀ b, P b → w'.heap[b]? = w.heap[b]?) (hP : ∀ b, P b → P' b) {l : List Ru} {cs : List Value} (h : RuReps w P l cs) : RuReps w' P' l cs := by
  induction h with
  | nil => exact .nil
  | cons h1 _ ih => exact .cons (h1.mono hb hP) ih
theorem Rep.length {w : World} {P : Nat → Prop} {n : Nd} {c : List Value} (h : Rep w P n c) : c.length = 8 := by
  cases h; rfl
theorem RuReps.length {w : World} {P : Nat → Prop} {l : List Ru} {cs : List Value} (h : RuReps w P l cs) : cs.length = l.length * 10 := by
  induction h with
  | nil => rfl
  | cons h1 _ ih => simp [h1.length, ih]; omega
theorem RuReps.snoc {w : World} {P : Nat → Prop} {l : List Ru} {cs : List Value} {x : Ru} {c : List Value} (h : RuReps w P l cs) (hn : Rep w P x.body c) : RuReps w P (l ++ [x]) (cs ++ (.string (mkS x.name) :: (c ++ [.int .i64 (x.pos : Int)]))) := by
  induction h with
  | nil => simpa using RuReps.cons hn .nil
  | cons h1 _ ih =>
    rw [List.cons_append, List.append_assoc]
    exact .cons h1 ih
/-- A grammar's rules, in a row of their own from a number on. -/
structure GV (B : Nat) (gs : List Ru) (v : Value) (cs : List Value) (w : World) : Prop where
  own : w.ownsRow B 69 10 v gs.length cs
  reps : RuReps w (fun b => B ≤ b ∧ b < w.heap.size ∧ v.ownBlock ≠ some b) gs cs
theorem GV.gby {B R : Nat} {gs : List Ru} {v : Value} {cs : List Value} {w w' : World} (h : GV B gs v cs w) (hg : w.grownBy w' (some R)) (hR : R < B) : GV B gs v cs w' := by
  refine ⟨h.own.kept hg ?_, RuReps.mono (fun b hb => hg.block b hb.2.1 (fun e => by have := Option.some.inj e; have := hb.1; omega)) (fun b hb => ⟨hb.1, Nat.lt_of_lt_of_le hb.2.1 hg.size, hb.2.2⟩) h.reps⟩
  cases hb : v.ownBlock with
  | none => left; rfl
  | some k => right; have := (h.own.lt k hb).1; simp; omega
theorem GV.below {B : Nat} {gs : List Ru} {v : Value} {cs : List Value} {w w' : World} (h : GV B gs v cs w) (hb : Below w.heap.size w w') : GV B gs v cs w' :=
  ⟨owns_below h.own hb, RuReps.mono (fun b h => hb.block b h.2.1) (fun _ h => ⟨h.1, Nat.lt_of_lt_of_le h.2.1 hb.size, h.2.2⟩) h.reps⟩
theorem GV.push {B gg cap lo : Nat} {gs : List Ru} {x : Ru} {v : Value} {cs c : List Value} {o : Obj} {w w4 : World} (h : GV B gs v cs w) (hg : (w.alloc o).grownBy w4 v.ownBlock) (hat : v.ownBlock = some gg ∨ gg = w.heap.size + 1)
    (hlo : ∀ k, v.ownBlock = some k → k < lo) (hBl : B ≤ lo) (hn : Rep w (Blk lo w.heap.size) x.body c)
    (hown : w4.ownsRow B 69 10 (.slice (some ⟨gg, 0, none⟩) (gs.length + 1) cap) (gs.length + 1) (cs ++ (.string (mkS x.name) :: (c ++ [.int .i64 (x.pos : Int)])))) : GV B (gs ++ [x]) (.slice (some ⟨gg, 0, none⟩) (gs.length + 1) cap) (cs ++ (.string (mkS x.name) :: (c ++ [.int .i64 (x.pos : Int)]))) w4 := by
  have hz := hg.size
  simp at hz
  have key : ∀ b, B ≤ b → b < w.heap.size → v.ownBlock ≠ some b → b ≠ gg ∧ w4.heap[b]? = w.heap[b]? := by
    intro b h1 h2 h3
    have hne : b ≠ gg := by
      rintro rfl
      rcases hat with e | e
      · exact h3 e
      · omega
    refine ⟨hne, ?_⟩
    rw [hg.block b (by simp; omega) (fun e => h3 e.symm)]
    exact RowKit.Below.heap_alloc _ _ _ h2
  refine ⟨by rw [List.length_append]; exact hown, RuReps.snoc ?_ ?_⟩
  · exact RuReps.mono (fun b hb => (key b hb.1 hb.2.1 hb.2.2).2) (fun b hb => ⟨hb.1, by have := hb.2.1; omega, fun e => (key b hb.1 hb.2.1 hb.2.2).1 (Option.some.inj e).symm⟩) h.reps
  · have k2 : ∀ b, Blk lo w.heap.size b → v.ownBlock ≠ some b := fun b hb e => by have := hlo b e; have := hb.lo; omega
    exact Rep.mono (fun b hb => (key b (by have := hb.lo; omega) hb.hi (k2 b hb)).2) (fun b hb => ⟨by have := hb.lo; omega, by have := hb.hi; omega, fun e => (key b (by have := hb.lo; omega) hb.hi (k2 b hb)).1 (Option.some.inj e).symm⟩) hn
/-- A grammar's rules as they lie in memory. -/
def GRep (w : World) (P : Nat → Prop) (gs : List Ru) (v : Value) : Prop := (gs = [] ∧ v = .slice none 0 0) ∨ ∃ b cap cur cs, v = .slice (some ⟨b, 0, none⟩) gs.length cap ∧ P b ∧ w.heap[b]? = some (.cells cur 69 (0, 0)) ∧ gs.length ≤ cap ∧ gs.length ≤ maxLen ∧ 0 < gs.length ∧ cur.toList.take (gs.length * 10) = cs ∧ RuReps w P gs cs
theorem GRep.mono {w w' : World} {P P' : Nat → Prop} (hb : ∀ b, P b → w'.heap[b]? = w.heap[b]?) (hP : ∀ b, P b → P' b) {gs : List Ru} {v : Value} (h : GRep w P gs v) : GRep w' P' gs v := by
  rcases h with h | ⟨b, cap, cur, cs, h1, h2, h3, h4, hm, h5, h6, h7⟩
  · exact .inl h
  · exact .inr ⟨b, cap, cur, cs, h1, hP b h2, (hb b h2).trans h3, h4, hm, h5, h6, h7.mono hb hP⟩
theorem GV.rep {B : Nat} {gs : List Ru} {v : Value} {cs : List Value} {w : World} (h : GV B gs v cs w) (h0 : 0 < gs.length) : GRep w (Blk B w.heap.size) gs v := by
  rcases h.own.2 with ⟨h1, h2⟩ | ⟨g, cap, cur, h1, h2, h3, h4, h5, h6, h7⟩
  · omega
  · exact .inr ⟨g, cap, cur, cs, h1, ⟨h2, (Array.getElem?_eq_some_iff.1 h3).1⟩, h3, h4, Nat.le_trans h4 h5, h0, h7, h.reps.mono (fun _ _ => rfl) (fun b hb => ⟨hb.1, hb.2.1⟩)⟩
end Go.Proofs.YtlohpplpnddfaaaDoor
namespace Go.Proofs.YtlohpplpnddfaaaDoor
open Go.RowKit Go.Sort

mutual
/-- The same tree; with its places, if asked for. -/
inductive SameN (at_ : Bool) : Nd → Nd → Prop
  | mk {k p p' : Nat} {t : List UInt8} {c : BitVec 256} {l l' : List Nd} : (at_ = true → p = p') → SameL at_ l l' → SameN at_ (.mk k t c l p) (.mk k t c l' p')
inductive SameL (at_ : Bool) : List Nd → List Nd → Prop
  | nil : SameL at_ [] []
  | cons {n n' : Nd} {l l' : List Nd} : SameN at_ n n' → SameL at_ l l' → SameL at_ (n :: l) (n' :: l')
end
mutual
theorem SameN.refl (b : Bool) : ∀ n : Nd, SameN b n n
  | .mk _ _ _ l _ => .mk (fun _ => rfl) (SameL.refl b l)
theorem SameL.refl (b : Bool) : ∀ l : List Nd, SameL b l l
  | [] => .nil
  | n :: l => .cons (SameN.refl b n) (SameL.refl b l)
end
theorem SameL.length {b : Bool} {l l' : List Nd} (h : SameL b l l') : l.length = l'.length := by
  induction l generalizing l' with
  | nil => cases h; rfl
  | cons n l ih => cases h with
    | cons h1 h2 => simp [ih h2]
theorem SameL.get {b : Bool} {l l' : List Nd} (h : SameL b l l') {k : Nat} {n n' : Nd} (h1 : l[k]? = some n) (h2 : l'[k]? = some n') : SameN b n n' := by
  induction l generalizing l' k with
  | nil => cases h; simp at h1
  | cons m l ih => cases h with
    | cons g1 g2 =>
      cases k with
      | zero => simp at h1 h2; rw [← h1, ← h2]; exact g1
      | succ k => exact ih g2 (by simpa using h1) (by simpa using h2)
theorem SameL.snoc {b : Bool} {l l' : List Nd} (h : SameL b l l') {n n' : Nd} (hn : SameN b n n') : SameL b (l ++ [n]) (l' ++ [n']) := by
  induction l generalizing l' with
  | nil => cases h; exact .cons hn .nil
  | cons m l ih => cases h with
    | cons g1 g2 => exact .cons g1 (ih g2)
/-- The cells of a tree in a row. -/
theorem Reps.get {w : World} {P : Nat → Prop} {l : List Nd} {cs : List Value} (h : Reps w P l cs) {k : Nat} {n : Nd} (hk : l[k]? = some n) : ∃ c, Rep w P n c ∧ ∀ j, j < 8 → cs[k * 8 + j]? = c[j]? := by
  induction l generalizing cs k with
  | nil => simp at hk
  | cons m l ih =>
    cases h with
    | cons h1 h2 =>
      cases k with
      | zero =>
        simp at hk
        subst hk
        refine ⟨_, h1, fun j hj => ?_⟩
        rw [List.getElem?_append_left (by cases h1; simp [ndC]; omega)]
        simp
      | succ k =>
        obtain ⟨c, g1, g2⟩ := ih h2 (by simpa using hk)
        refine ⟨c, g1, fun j hj => ?_⟩
        rw [List.getElem?_append_right (by cases h1; simp [ndC]; omega), ← g2 j hj]
        congr 1
        cases h1
        simp [ndC]
        omega
/-- A tree's part, as its cells lie in the row. -/
theorem reps_cells {w : World} {P : Nat → Prop} {l : List Nd} {g : Nat} {cur : Array Value} {n : Nat} (hn : l.length = n) (hcur : w.heap[g]? = some (.cells cur 67 (0, 0))) (h : Reps w P l (cur.toList.take (n * 8))) {k : Nat} {x : Nd} (hk : l[k]? = some x) :
    ∃ a t c sa sn sc, Rep w P x (ndC a t c (.slice sa sn sc) x.pos) ∧ w.cell? ⟨g, k * 8, none⟩ = some (.int .i64 (a : Int)) ∧ w.cell? ⟨g, k * 8 + 1, none⟩ = some (.string (mkS t)) ∧ w.cell? ⟨g, k * 8 + 2, none⟩ = some (.int .u64 (wd c 0)) ∧ w.cell? ⟨g, k * 8 + 3, none⟩ = some (.int .u64 (wd c 1)) ∧ w.cell? ⟨g, k * 8 + 4, none⟩ = some (.int .u64 (wd c 2)) ∧ w.cell? ⟨g, k * 8 + 5, none⟩ = some (.int .u64 (wd c 3)) ∧ w.cell? ⟨g, k * 8 + 6, none⟩ = some (.slice sa sn sc) ∧ w.cell? ⟨g, k * 8 + 7, none⟩ = some (.int .i64 (x.pos : Int)) := by
  obtain ⟨c, h1, h2⟩ := h.get hk
  obtain ⟨a, t, y, v, l', e1, e2, h3⟩ := h1.form
  obtain ⟨sa, sn, sc, rfl⟩ := h3.slice
  subst e2
  have hlt : k < n := by rw [← hn]; exact (List.getElem?_eq_some_iff.1 hk).1
  have key : ∀ j, j < 8 → w.cell? ⟨g, k * 8 + j, none⟩ = (ndC a t y (.slice sa sn sc) x.pos)[j]? := fun j hj => by
    rw [(cells_at hcur).1, ← h2 j hj, List.getElem?_take, if_pos (by omega), Array.getElem?_toList]
  exact ⟨a, t, y, sa, sn, sc, h1, key 0 (by decide), key 1 (by decide), key 2 (by decide), key 3 (by decide), key 4 (by decide), key 5 (by decide), key 6 (by decide), key 7 (by decide)⟩
theorem RepS.parts {w : World} {P : Nat → Prop} {l : List Nd} {v : Value} (h : RepS w P l v) : (l = [] ∧ v = .slice none 0 0) ∨ ∃ g cap cur, v = .slice (some ⟨g, 0, none⟩) l.length cap ∧ P g ∧ w.heap[g]? = some (.cells cur 67 (0, 0)) ∧ 0 < l.length ∧ l.length ≤ cap ∧ l.length ≤ maxLen ∧ Reps w P l (cur.toList.take (l.length * 8)) := by
  cases h with
  | nil => exact .inl ⟨rfl, rfl⟩
  | row h1 h2 h3 h4 hm h5 h6 => subst h5; exact .inr ⟨_, _, _, rfl, h1, h2, h3, h4, hm, h6⟩
/-- Below a number of blocks. -/
theorem Rep.on {w w' : World} {P : Nat → Prop} {n : Nd} {c : List Value} (h : Rep w P n c) (hP : ∀ b, P b → b < w.heap.size) (hb : Below w.heap.size w w') : Rep w' P n c := h.mono (fun b hb' => hb.block b (hP b hb')) (fun _ h => h)
/-- The contract of SameNode at a tree. -/
def SameC (at_ : Bool) (n : Nd) : Prop := ∀ (m : Nd) (w : World) (P P' : Nat → Prop) (c c' : List Value), SameN at_ n m → Rep w P n c → Rep w P' m c' → (∀ b, P b → b < w.heap.size) → (∀ b, P' b → b < w.heap.size) →
  Calls Tryd.prog 48 #[.agg c.toArray, .agg c'.toArray, .bool at_] w (Ans (.bool true) w)
set_option maxRecDepth 100000 in
set_option maxHeartbeats 3200000 in
theorem same_leaf (at_ : Bool) {k p p' : Nat} {t : List UInt8} {x : BitVec 256} (w : World) (hp : at_ = true → p = p') :
    Calls Tryd.prog 48 #[.agg (ndC k t x (.slice none 0 0) p).toArray, .agg (ndC k t x (.slice none 0 0) p').toArray, .bool at_] w (Ans (.bool true) w) := by
  have f8 := guard_cl
  have f9 := equal_cl
  have hm1 := cell_alloc_lt
  dsimp only [ndC]
  cases at_ with
  | false =>
    clear hp
    go_enter Tryd.func48, Tryd.ntmps48
    repeat (first | go_values | go_skip | go_guarded | go_step | go_upon)
    refine wp_loop_rounds 1 ?_
    rw [rounds_succ]
    repeat (first | go_values | go_skip | go_guarded | go_step | go_upon)
    go_ret
    exact ⟨rfl, (by repeat (first | exact Below.refl _ _ | assumption | refine bal ?_ _ | refine bdr ?_ | refine bdrn ?_ _ | (refine bset ?_ (by first | exact Nat.le_refl _ | (simp; done) | (simp; omega) | omega) _) | refine bstep ?_ (by assumption)))⟩
  | true =>
    obtain rfl := hp rfl
    go_enter Tryd.func48, Tryd.ntmps48
    repeat (first | go_values | go_skip | go_guarded | go_step | go_upon)
    refine wp_loop_rounds 1 ?_
    rw [rounds_succ]
    repeat (first | go_values | go_skip | go_guarded | go_step | go_upon)
    go_ret
    exact ⟨rfl, (by repeat (first | exact Below.refl _ _ | assumption | refine bal ?_ _ | refine bdr ?_ | refine bdrn ?_ _ | (refine bset ?_ (by first | exact Nat.le_refl _ | (simp; done) | (simp; omega) | omega) _) | refine bstep ?_ (by assumption)))⟩
set_option maxRecDepth 100000 in
set_option maxHeartbeats 6400000 in
theorem same_row (at_ : Bool) {k p p' n g g' cap cap' : Nat} {t : List UInt8} {x : BitVec 256} {l l' : List Nd} {cur cur' : Array Value} {P P' : Nat → Prop} (w : World) (hp : at_ = true → p = p') (hl : SameL at_ l l') (hn : l.length = n) (_ : n ≤ cap) (_ : n ≤ cap') (hmax : n ≤ maxLen) (h1 : w.heap[g]? = some (.cells cur 67 (0, 0))) (h2 : w.heap[g']? = some (.cells cur' 67 (0, 0))) (r1 : Reps w P l (cur.toList.take (n * 8))) (r2 : Reps w P' l' (cur'.toList.take (n * 8))) (hP : ∀ b, P b → b < w.heap.size) (hP' : ∀ b, P' b → b < w.heap.size) (IH : ∀ m ∈ l, SameC at_ m) :
    Calls Tryd.prog 48 #[.agg (ndC k t x (.slice (some ⟨g, 0, none⟩) n cap) p).toArray, .agg (ndC k t x (.slice (some ⟨g', 0, none⟩) n cap') p').toArray, .bool at_] w (Ans (.bool true) w) := by
  have f8 := guard_cl
  have f9 := equal_cl
  have hm1 := cell_alloc_lt
  have HL := Lib.hid hl
  have HN := Lib.hid hn
  have hn' : l'.length = n := by rw [← hl.length]; exact hn
  have HN' := Lib.hid hn'
  have R1 := Lib.hid r1
  have R2 := Lib.hid r2
  have H1 := Lib.hid h1
  have H2 := Lib.hid h2
  have HP := Lib.hid hP
  have HP' := Lib.hid hP'
  have HI := Lib.hid IH
  unfold maxLen at hmax
  clear hl hn hn' r1 r2 h1 h2 hP hP' IH
  dsimp only [ndC]
  cases at_ with
  | false =>
    clear hp
    go_enter Tryd.func48, Tryd.ntmps48
    repeat (first | go_values | go_skip | go_guarded | go_step | go_upon)
    go_loopw [7] (fun tt wr => ∃ j : Nat, tt = .int .i64 (j : Int) ∧ j ≤ n ∧ Below ((w.alloc (.cells #[.int .i64 (k : Int), .string (mkS t), .int .u64 (wd x 0), .int .u64 (wd x 1), .int .u64 (wd x 2), .int .u64 (wd x 3), .slice (some ⟨g, 0, none⟩) n cap, .int .i64 (p : Int)] 67)).alloc (.cells #[.int .i64 (k : Int), .string (mkS t), .int .u64 (wd x 0), .int .u64 (wd x 1), .int .u64 (wd x 2), .int .u64 (wd x 3), .slice (some ⟨g', 0, none⟩) n cap', .int .i64 (p' : Int)] 67)).heap.size ((w.alloc (.cells #[.int .i64 (k : Int), .string (mkS t), .int .u64 (wd x 0), .int .u64 (wd x 1), .int .u64 (wd x 2), .int .u64 (wd x 3), .slice (some ⟨g, 0, none⟩) n cap, .int .i64 (p : Int)] 67)).alloc (.cells #[.int .i64 (k : Int), .string (mkS t), .int .u64 (wd x 0), .int .u64 (wd x 1), .int .u64 (wd x 2), .int .u64 (wd x 3), .slice (some ⟨g', 0, none⟩) n cap', .int .i64 (p' : Int)] 67)) wr) (fun tt _ => n - (intOf tt).toNat)
    case atStart => exact ⟨0, rfl, Nat.zero_le _, Below.refl _ _⟩
    case round =>
      obtain ⟨j, rfl, hj, hbr⟩ := hrel
      have HB := Lib.hid hbr
      have hA := (hbr.block w.heap.size (by simp; omega)).trans ((RowKit.Below.heap_alloc _ _ _ (by simp)).trans (heap_alloc_new w (.cells #[.int .i64 (k : Int), .string (mkS t), .int .u64 (wd x 0), .int .u64 (wd x 1), .int .u64 (wd x 2), .int .u64 (wd x 3), .slice (some ⟨g, 0, none⟩) n cap, .int .i64 (p : Int)] 67)))
      have hB := (hbr.block (w.heap.size + 1) (by simp)).trans (alloc2_new w (.cells #[.int .i64 (k : Int), .string (mkS t), .int .u64 (wd x 0), .int .u64 (wd x 1), .int .u64 (wd x 2), .int .u64 (wd x 3), .slice (some ⟨g, 0, none⟩) n cap, .int .i64 (p : Int)] 67) (.cells #[.int .i64 (k : Int), .string (mkS t), .int .u64 (wd x 0), .int .u64 (wd x 1), .int .u64 (wd x 2), .int .u64 (wd x 3), .slice (some ⟨g', 0, none⟩) n cap', .int .i64 (p' : Int)] 67))
      have s1 : wr.cell? ⟨w.heap.size, 6, none⟩ = some (.slice (some ⟨g, 0, none⟩) n cap) := (cells_at hA).1 6
      have s2 : wr.cell? ⟨w.heap.size + 1, 6, none⟩ = some (.slice (some ⟨g', 0, none⟩) n cap') := (cells_at hB).1 6
      have hw : Below w.heap.size w wr := (bal (bal (Below.refl _ w) _) _).trans (hbr.mono (by simp; omega))
      have HW := Lib.hid hw
      clear hA hB hbr hw
      by_cases hlt : j < n
      · obtain ⟨y, hy⟩ : ∃ y, l[j]? = some y := ⟨l[j]'(by rw [HN.out]; exact hlt), List.getElem?_eq_getElem (by rw [HN.out]; exact hlt)⟩
        obtain ⟨y', hy'⟩ : ∃ y', l'[j]? = some y' := ⟨l'[j]'(by rw [HN'.out]; exact hlt), List.getElem?_eq_getElem (by rw [HN'.out]; exact hlt)⟩
        obtain ⟨k1, t1, x1, sa, sn, sc, q0, a0, a1, a2, a3, a4, a5, a6, a7⟩ := reps_cells HN.out ((HW.out.block g (Array.getElem?_eq_some_iff.1 H1.out).1).trans H1.out) (R1.out.mono (fun b hb => HW.out.block b (HP.out b hb)) (fun _ h => h)) hy
        obtain ⟨k2, t2, x2, sa2, sn2, sc2, q0', b0, b1, b2, b3, b4, b5, b6, b7⟩ := reps_cells HN'.out ((HW.out.block g' (Array.getElem?_eq_some_iff.1 H2.out).1).trans H2.out) (R2.out.mono (fun b hb => HW.out.block b (HP'.out b hb)) (fun _ h => h)) hy'
        have hz := HW.out.size
        have HC := Lib.hid (fun (w' : World) (e : w'.heap = wr.heap) => HI.out y (List.mem_of_getElem? hy) y' w' P P' _ _ (HL.out.get hy hy') (q0.mono (w' := w') (fun b _ => by rw [e]) (fun _ h => h)) (q0'.mono (w' := w') (fun b _ => by rw [e]) (fun _ h => h)) (fun b hb => by rw [e]; exact Nat.lt_of_lt_of_le (HP.out b hb) hz) (fun b hb => by rw [e]; exact Nat.lt_of_lt_of_le (HP'.out b hb) hz))
        clear hy hy' q0 q0'
        have d1 : decide ((j : Int) < n) = true := by simpa using hlt
        repeat (first | go_values | go_skip | go_guarded | go_step | go_upon)
        go_still_tail 11, (by kernel_rfl)
        repeat (first | go_values | go_skip | go_guarded | go_step | go_upon)
        refine (HC.out wr.drew rfl).mono ?_
        rintro e w1 ⟨rfl, hb1⟩
        dsimp only
        repeat (first | go_values | go_skip | go_guarded | go_step | go_upon)
        exact ⟨⟨j + 1, by go_num, by omega, HB.out.trans ((drew_below wr).trans (hb1.mono (by simp)) |>.mono (by have := HB.out.size; simpa using this))⟩, by simp [intOf]; omega⟩
      · have d1 : decide (j < n) = false := by simpa using hlt
        clear hlt
        repeat (first | go_values | go_skip | go_guarded | go_step | go_upon)
        go_ret
        exact ⟨rfl, (bal (bal (Below.refl _ w) _) _).trans (HB.out.mono (by simp; omega))⟩
  | true =>
    obtain rfl := hp rfl
    clear hp
    go_enter Tryd.func48, Tryd.ntmps48
    repeat (first | go_values | go_skip | go_guarded | go_step | go_upon)
    go_loopw [7] (fun tt wr => ∃ j : Nat, tt = .int .i64 (j : Int) ∧ j ≤ n ∧ Below ((w.alloc (.cells #[.int .i64 (k : Int), .string (mkS t), .int .u64 (wd x 0), .int .u64 (wd x 1), .int .u64 (wd x 2), .int .u64 (wd x 3), .slice (some ⟨g, 0, none⟩) n cap, .int .i64 (p : Int)] 67)).alloc (.cells #[.int .i64 (k : Int), .string (mkS t), .int .u64 (wd x 0), .int .u64 (wd x 1), .int .u64 (wd x 2), .int .u64 (wd x 3), .slice (some ⟨g', 0, none⟩) n cap', .int .i64 (p : Int)] 67)).heap.size ((w.alloc (.cells #[.int .i64 (k : Int), .string (mkS t), .int .u64 (wd x 0), .int .u64 (wd x 1), .int .u64 (wd x 2), .int .u64 (wd x 3), .slice (some ⟨g, 0, none⟩) n cap, .int .i64 (p : Int)] 67)).alloc (.cells #[.int .i64 (k : Int), .string (mkS t), .int .u64 (wd x 0), .int .u64 (wd x 1), .int .u64 (wd x 2), .int .u64 (wd x 3), .slice (some ⟨g', 0, none⟩) n cap', .int .i64 (p : Int)] 67)) wr) (fun tt _ => n - (intOf tt).toNat)
    case atStart => exact ⟨0, rfl, Nat.zero_le _, Below.refl _ _⟩
    case round =>
      obtain ⟨j, rfl, hj, hbr⟩ := hrel
      have HB := Lib.hid hbr
      have hA := (hbr.block w.heap.size (by simp; omega)).trans ((RowKit.Below.heap_alloc _ _ _ (by simp)).trans (heap_alloc_new w (.cells #[.int .i64 (k : Int), .string (mkS t), .int .u64 (wd x 0), .int .u64 (wd x 1), .int .u64 (wd x 2), .int .u64 (wd x 3), .slice (some ⟨g, 0, none⟩) n cap, .int .i64 (p : Int)] 67)))
      have hB := (hbr.block (w.heap.size + 1) (by simp)).trans (alloc2_new w (.cells #[.int .i64 (k : Int), .string (mkS t), .int .u64 (wd x 0), .int .u64 (wd x 1), .int .u64 (wd x 2), .int .u64 (wd x 3), .slice (some ⟨g, 0, none⟩) n cap, .int .i64 (p : Int)] 67) (.cells #[.int .i64 (k : Int), .string (mkS t), .int .u64 (wd x 0), .int .u64 (wd x 1), .int .u64 (wd x 2), .int .u64 (wd x 3), .slice (some ⟨g', 0, none⟩) n cap', .int .i64 (p : Int)] 67))
      have s1 : wr.cell? ⟨w.heap.size, 6, none⟩ = some (.slice (some ⟨g, 0, none⟩) n cap) := (cells_at hA).1 6
      have s2 : wr.cell? ⟨w.heap.size + 1, 6, none⟩ = some (.slice (some ⟨g', 0, none⟩) n cap') := (cells_at hB).1 6
      have hw : Below w.heap.size w wr := (bal (bal (Below.refl _ w) _) _).trans (hbr.mono (by simp; omega))
      have HW := Lib.hid hw
      clear hA hB hbr hw
      by_cases hlt : j < n
      · obtain ⟨y, hy⟩ : ∃ y, l[j]? = some y := ⟨l[j]'(by rw [HN.out]; exact hlt), List.getElem?_eq_getElem (by rw [HN.out]; exact hlt)⟩
        obtain ⟨y', hy'⟩ : ∃ y', l'[j]? = some y' := ⟨l'[j]'(by rw [HN'.out]; exact hlt), List.getElem?_eq_getElem (by rw [HN'.out]; exact hlt)⟩
        obtain ⟨k1, t1, x1, sa, sn, sc, q0, a0, a1, a2, a3, a4, a5, a6, a7⟩ := reps_cells HN.out ((HW.out.block g (Array.getElem?_eq_some_iff.1 H1.out).1).trans H1.out) (R1.out.mono (fun b hb => HW.out.block b (HP.out b hb)) (fun _ h => h)) hy
        obtain ⟨k2, t2, x2, sa2, sn2, sc2, q0', b0, b1, b2, b3, b4, b5, b6, b7⟩ := reps_cells HN'.out ((HW.out.block g' (Array.getElem?_eq_some_iff.1 H2.out).1).trans H2.out) (R2.out.mono (fun b hb => HW.out.block b (HP'.out b hb)) (fun _ h => h)) hy'
        have hz := HW.out.size
        have HC := Lib.hid (fun (w' : World) (e : w'.heap = wr.heap) => HI.out y (List.mem_of_getElem? hy) y' w' P P' _ _ (HL.out.get hy hy') (q0.mono (w' := w') (fun b _ => by rw [e]) (fun _ h => h)) (q0'.mono (w' := w') (fun b _ => by rw [e]) (fun _ h => h)) (fun b hb => by rw [e]; exact Nat.lt_of_lt_of_le (HP.out b hb) hz) (fun b hb => by rw [e]; exact Nat.lt_of_lt_of_le (HP'.out b hb) hz))
        clear hy hy' q0 q0'
        have d1 : decide ((j : Int) < n) = true := by simpa using hlt
        repeat (first | go_values | go_skip | go_guarded | go_step | go_upon)
        go_still_tail 11, (by kernel_rfl)
        repeat (first | go_values | go_skip | go_guarded | go_step | go_upon)
        refine (HC.out wr.drew rfl).mono ?_
        rintro e w1 ⟨rfl, hb1⟩
        dsimp only
        repeat (first | go_values | go_skip | go_guarded | go_step | go_upon)
        exact ⟨⟨j + 1, by go_num, by omega, HB.out.trans ((drew_below wr).trans (hb1.mono (by simp)) |>.mono (by have := HB.out.size; simpa using this))⟩, by simp [intOf]; omega⟩
      · have d1 : decide (j < n) = false := by simpa using hlt
        clear hlt
        repeat (first | go_values | go_skip | go_guarded | go_step | go_upon)
        go_ret
        exact ⟨rfl, (bal (bal (Below.refl _ w) _) _).trans (HB.out.mono (by simp; omega))⟩
/-- The contract of SameNode, where two trees are the same. -/
theorem same_node (at_ : Bool) : ∀ (k : Nat) (n : Nd), SizeOf.sizeOf n ≤ k → SameC at_ n := by
  intro k
  induction k with
  | zero => intro n hn; cases n; simp at hn
  | succ k ih =>
    intro n hn m w P P' c c' hs h1 h2 hP hP'
    cases hs with
    | mk hp hl =>
      rename_i kk p p' t x l l'
      cases h1 with
      | mk r1 =>
        cases h2 with
        | mk r2 =>
          rcases r1.parts with ⟨rfl, rfl⟩ | ⟨g, cap, cur, rfl, hg, hh, hpos, hcap, hmax, hr⟩
          · rcases r2.parts with ⟨rfl, rfl⟩ | ⟨g', cap', cur', rfl, hg', hh', hpos', hcap', hmax', hr'⟩
            · exact same_leaf at_ w hp
            · have := hl.length; rw [List.length_nil] at this; omega
          · rcases r2.parts with ⟨rfl, rfl⟩ | ⟨g', cap', cur', rfl, hg', hh', hpos', hcap', hmax', hr'⟩
            · have := hl.length; rw [List.length_nil] at this; omega
            · have hle := hl.length
              rw [← hle] at hcap' hr' ⊢
              exact same_row at_ w hp hl rfl hcap hcap' hmax hh hh' hr hr' hP hP' (fun m hm => ih m (by
                have e1 : SizeOf.sizeOf m < SizeOf.sizeOf l := List.sizeOf_lt_of_mem hm
                rw [Nd.mk.sizeOf_spec] at hn
                omega))
theorem same_any (at_ : Bool) (n : Nd) : SameC at_ n := same_node at_ (SizeOf.sizeOf n) n (Nat.le_refl _)
end Go.Proofs.YtlohpplpnddfaaaDoor
