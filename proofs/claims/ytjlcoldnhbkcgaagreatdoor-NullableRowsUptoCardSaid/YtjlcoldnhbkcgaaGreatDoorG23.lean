/- More fuel changes nothing of the plain parser; the walk of row. | The walk of row. -/
import Derived.Test.YtjlcoldnhbkcgaaGreatDoorG22
namespace Go.Proofs.YtjlcoldnhbkcgaaGreatDoor
open Go.RowKit Go.Sort

/-- One more of fuel. -/
theorem p_mono1 : ∀ f : Nat, (∀ d rs r, pChoice f d rs = some r → pChoice (f + 1) d rs = some r) ∧ (∀ d rs l r, pAlts f d rs l = some r → pAlts (f + 1) d rs l = some r) ∧ (∀ d rs l r, pParts f d rs l = some r → pParts (f + 1) d rs l = some r) ∧ (∀ d rs r, pPart f d rs = some r → pPart (f + 1) d rs = some r) ∧ (∀ d rs r, pOne f d rs = some r → pOne (f + 1) d rs = some r) := by
  intro f
  induction f with
  | zero => exact ⟨fun _ _ _ h => by simp [pChoice] at h, fun _ _ _ _ h => by simp [pAlts] at h, fun _ _ _ _ h => by simp [pParts] at h, fun _ _ _ h => by simp [pPart] at h, fun _ _ _ h => by simp [pOne] at h⟩
  | succ f ih =>
    obtain ⟨iC, iA, iS, iP, iO⟩ := ih
    refine ⟨fun d rs r h => ?_, fun d rs l r h => ?_, fun d rs l r h => ?_, fun d rs r h => ?_, fun d rs r h => ?_⟩
    · rw [pChoice] at h ⊢
      cases e : pParts f d rs [] with
      | none => rw [e] at h; cases h
      | some x =>
        rw [iS _ _ _ _ e]
        rw [e] at h
        cases x with
        | err c x => exact h
        | ok n rs2 => exact iA _ _ _ _ h
    · rw [pAlts] at h ⊢
      split at h
      · next hs =>
        rw [if_pos hs]
        cases e : pParts f d rs.tail [] with
        | none => rw [e] at h; cases h
        | some x =>
          rw [iS _ _ _ _ e]
          rw [e] at h
          cases x with
          | err c x => exact h
          | ok n rs2 => exact iA _ _ _ _ h
      · next hs => rw [if_neg hs]; exact h
    · rw [pParts] at h ⊢
      cases e : pPart f d rs with
      | none => rw [e] at h; cases h
      | some x =>
        rw [iP _ _ _ e]
        rw [e] at h
        cases x with
        | err c x => exact h
        | ok a rs2 =>
          cases a with
          | none => exact h
          | some n => exact iS _ _ _ _ h
    · rw [pPart] at h ⊢
      cases e : pOne f d (if preK (sgnOf rs) = 0 then rs else rs.tail) with
      | none => rw [e] at h; cases h
      | some x =>
        rw [iO _ _ _ e]
        rw [e] at h
        exact h
    · cases rs with
      | nil => simp [pOne] at h
      | cons t rs =>
        rw [pOne] at h ⊢
        split at h
        · next h1 => rw [if_pos h1]; exact h
        next h1 =>
        rw [if_neg h1]
        split at h
        · next h3 => rw [if_pos h3]; exact h
        next h3 =>
        rw [if_neg h3]
        split at h
        · next h4 => rw [if_pos h4]; exact h
        next h4 =>
        rw [if_neg h4]
        split at h
        · next h5 => rw [if_pos h5]; exact h
        next h5 =>
        rw [if_neg h5]
        split at h
        · next h6 =>
          rw [if_pos h6]
          split at h
          · next h7 => rw [if_pos h7]; exact h
          next h7 =>
          rw [if_neg h7]
          cases e : pChoice f (d + 1) rs with
          | none => rw [e] at h; cases h
          | some x =>
            rw [iC _ _ _ e]
            rw [e] at h
            exact h
        next h6 => rw [if_neg h6]; exact h
theorem pChoice_mono {f f' d : Nat} {rs : List Tok} {r : PR Nd} (h : pChoice f d rs = some r) (hf : f ≤ f') : pChoice f' d rs = some r := by
  obtain ⟨k, rfl⟩ := Nat.exists_eq_add_of_le hf
  clear hf
  induction k with
  | zero => exact h
  | succ k ih => exact (p_mono1 (f + k)).1 _ _ _ ih
theorem pAlts_mono {f f' d : Nat} {rs : List Tok} {l : List Nd} {r : PR Nd} (h : pAlts f d rs l = some r) (hf : f ≤ f') : pAlts f' d rs l = some r := by
  obtain ⟨k, rfl⟩ := Nat.exists_eq_add_of_le hf
  clear hf
  induction k with
  | zero => exact h
  | succ k ih => exact (p_mono1 (f + k)).2.1 _ _ _ _ ih
theorem pParts_mono {f f' d : Nat} {rs : List Tok} {l : List Nd} {r : PR Nd} (h : pParts f d rs l = some r) (hf : f ≤ f') : pParts f' d rs l = some r := by
  obtain ⟨k, rfl⟩ := Nat.exists_eq_add_of_le hf
  clear hf
  induction k with
  | zero => exact h
  | succ k ih => exact (p_mono1 (f + k)).2.2.1 _ _ _ _ ih
theorem pPart_mono {f f' d : Nat} {rs : List Tok} {r : PR (Option Nd)} (h : pPart f d rs = some r) (hf : f ≤ f') : pPart f' d rs = some r := by
  obtain ⟨k, rfl⟩ := Nat.exists_eq_add_of_le hf
  clear hf
  induction k with
  | zero => exact h
  | succ k ih => exact (p_mono1 (f + k)).2.2.2.1 _ _ _ ih
/-- From a state of a row on, its end is the row's. -/
def RowsOn (d : Nat) (rs rs' : List Tok) (ns : List Nd) : Prop := ∀ f r, pParts f d rs' ns = some r → ∃ f', pParts f' d rs [] = some r
theorem RowsOn.err {d f c x : Nat} {rs rs' : List Tok} {ns : List Nd} (h : RowsOn d rs rs' ns) (hp : pPart f d rs' = some (.err c x)) : ∃ f', pParts f' d rs [] = some (.err c x) := h (f + 1) _ (by rw [pParts, hp])
theorem RowsOn.none {d f : Nat} {rs rs' rs2 : List Tok} {ns : List Nd} (h : RowsOn d rs rs' ns) (hp : pPart f d rs' = some (.ok none rs2)) : ∃ f', pParts f' d rs [] = some (.ok (if ns.length = 0 then .mk 1 [] 0 [] (posT rs2) else joinN 6 ns) rs2) := h (f + 1) _ (by rw [pParts, hp])
theorem RowsOn.some {d f : Nat} {rs rs' rs2 : List Tok} {ns : List Nd} {n : Nd} (h : RowsOn d rs rs' ns) (hp : pPart f d rs' = some (.ok (some n) rs2)) : RowsOn d rs rs2 (ns ++ [n]) := fun f2 r h2 => h (f + f2 + 1) r (by
  rw [pParts, pPart_mono hp (by omega)]
  exact pParts_mono h2 (by omega))
/-- The length of a slice. -/
def slLen (v : Value) : Nat := match v with
  | .slice _ n _ => n
  | _ => 0
/-- The state of a row. -/
structure RowI (R g d : Nat) (w : World) (rs : List Tok) (ns : List Nd) (rs' : List Tok) (wr : World) : Prop where
  rd : ∃ o c, SR R g o c d rs' wr
  lv : ∃ v cs, LV (w.heap.size + 1) (w.heap.size + 1 + 1) ns v cs wr
  grow : (w.alloc (.cells #[.int .i64 0, .string ⟨#[]⟩, .int .u64 0, .int .u64 0, .int .u64 0, .int .u64 0, .slice none 0 0, .int .i64 0] 40)).grownBy wr (some R)
  ends : EndsT rs'
  len : ns.length + rs'.length ≤ rs.length
theorem RowI.meas {R g d : Nat} {w : World} {rs : List Tok} {ns : List Nd} {rs' : List Tok} {wr : World} (h : RowI R g d w rs ns rs' wr) : slLen ((wr.cell? ⟨R, 0, none⟩).getD undef) = rs'.length := by
  obtain ⟨o, c, hs⟩ := h.rd
  rw [hs.cells.1]; rfl
end Go.Proofs.YtjlcoldnhbkcgaaGreatDoor
namespace Go.Proofs.YtjlcoldnhbkcgaaGreatDoor
open Go.RowKit Go.Sort

theorem alloc2_new (w : World) (a b : Obj) : ((w.alloc a).alloc b).heap[w.heap.size + 1]? = some b := by
  rw [← World.size_alloc w a]; exact heap_alloc_new _ _
set_option maxRecDepth 100000 in
set_option maxHeartbeats 6400000 in
theorem row_any {R g o c d : Nat} {rs : List Tok} {w : World} (h : SR R g o c d rs w) (hd : d ≤ 24) (hE : EndsT rs) (IH : ∀ l : List Tok, l.length < rs.length → ChoiceC R g l) (hlen : rs.length ≤ 9000) :
    Calls Tryz.prog 62 #[.pointer (some ⟨R, 0, none⟩)] w (fun e w' => ∃ f r, pParts f d rs [] = some r ∧ NdP R g d rs.length w e w' r) := by
  have HI := Lib.hid IH
  have qR := h.ltR
  have qg := h.lt
  have HI0 := Lib.hid (show RowI R g d w rs [] rs ((w.alloc (.cells #[.int .i64 0, .string ⟨#[]⟩, .int .u64 0, .int .u64 0, .int .u64 0, .int .u64 0, .slice none 0 0, .int .i64 0] 40)).alloc (.cells #[.slice none 0 0] 38)) from
    ⟨⟨o, c, (h.alloc _).alloc _⟩, ⟨.slice none 0 0, [], alloc2_new _ _ _, World.ownsRow_nil _ _ _ _, .nil, rfl, fun _ => rfl⟩, below_gby _ (bal (Below.refl _ _) _), hE, by simp⟩)
  have hm1 := cell_alloc_lt
  have hm2 := frozen_alloc_lt
  have hnil := fun (w : World) (a : Option Addr) (n c : Nat) => Lib.run_eql_slice_nil (P := Tryz.prog) w 38 40 a n c 0 0 Tryz.underlying38
  clear h hE IH
  go_enter Tryz.func62, Tryz.ntmps62
  repeat (first | go_values | go_skip | go_guarded | go_step | go_upon)
  go_loopw [4] (fun _ wr => ∃ (ns : List Nd) (rs' : List Tok), RowI R g d w rs ns rs' wr ∧ Hid (RowsOn d rs rs' ns)) (fun _ wr => slLen ((wr.cell? ⟨R, 0, none⟩).getD undef))
  case atStart => exact ⟨[], rs, HI0.out, Lib.hid (fun f r h => ⟨f, h⟩)⟩
  case round =>
    obtain ⟨ns, rs', hI, hon⟩ := hrel
    have HRI := Lib.hid hI
    obtain ⟨⟨o1, c1, h1⟩, ⟨v, cs, hL⟩, hg, hE1, hl1⟩ := hI
    obtain ⟨t1, l1, rfl⟩ := hE1.ne
    have H1 := Lib.hid h1
    have HL := Lib.hid hL
    have HG := Lib.hid hg
    have HE1 := Lib.hid hE1
    have zg := hg.size
    simp only [World.size_alloc] at zg
    clear h1 hL hg hE1
    repeat (first | go_values | go_skip | go_guarded | go_step | go_upon)
    refine (part_any H1.out hd HE1.out HL.out HG.out ⟨by simp; omega, by simp; omega, by simp⟩ (fun l hl => HI.out l (by omega)) (by omega)).mono ?_
    rintro e w1 ⟨f, r, hf, hr⟩
    cases r with
    | err ec ex =>
      obtain ⟨⟨p, rfl, hp, hl⟩, g2⟩ := hr
      obtain ⟨f', hf'⟩ := hon.out.err hf
      simp only [World.size_alloc] at hl
      dsimp only
      repeat (first | go_values | go_skip | go_guarded | go_step | go_upon)
      exact ⟨rfl, f', _, hf', ⟨p, rfl, hp, by omega⟩, (below_gby _ (bal (Below.refl _ _) _)).trans g2⟩
    | ok a rs2 =>
      cases a with
      | none =>
        obtain ⟨f', hf'⟩ := hon.out.none hf
        obtain ⟨rfl, ⟨v2, cs2, hL2⟩, ⟨o2, c2, h2⟩, g2, hE2, hl2⟩ := hr
        obtain ⟨u2, l2, rfl⟩ := hE2.ne
        have hlr : (u2 :: l2).length ≤ rs.length := by omega
        have hN0 : w1.heap[w.heap.size]? = _ := (g2.block w.heap.size (by simp) (fun e => by have := Option.some.inj e; omega)).trans (heap_alloc_new _ _)
        have HL2 := Lib.hid hL2
        have H2 := Lib.hid h2
        have HE2 := Lib.hid hE2
        have G2 := Lib.hid ((below_gby (some R) (bal (Below.refl _ w) _)).trans g2)
        have HF := Lib.hid hf'
        have z2 := g2.size
        simp only [World.size_alloc] at z2
        have qz := hL2.ltL
        rcases owns_form2 hL2.own with ⟨hn0, rfl⟩ | ⟨g3, cap3, rfl⟩
        · obtain rfl : ns = [] := List.eq_nil_of_length_eq_zero hn0
          have lc : w1.cell? ⟨w.heap.size + 1, 0, none⟩ = some (.slice none 0 0) := (cells_at hL2.here).1 0
          obtain ⟨c0, c1, fz⟩ := h2.cells
          obtain ⟨a0, a1, a2, a3, a4, a5, a6⟩ := h2.head
          dsimp only [List.length] at c0
          have n0 : w1.cell? ⟨w.heap.size, 0, none⟩ = some (.int .i64 0) := (cells_at hN0).1 0
          have n1 : w1.cell? ⟨w.heap.size, 1, none⟩ = some (.string ⟨#[]⟩) := (cells_at hN0).1 1
          have n2 : w1.cell? ⟨w.heap.size, 2, none⟩ = some (.int .u64 0) := (cells_at hN0).1 2
          have n3 : w1.cell? ⟨w.heap.size, 3, none⟩ = some (.int .u64 0) := (cells_at hN0).1 3
          have n4 : w1.cell? ⟨w.heap.size, 4, none⟩ = some (.int .u64 0) := (cells_at hN0).1 4
          have n5 : w1.cell? ⟨w.heap.size, 5, none⟩ = some (.int .u64 0) := (cells_at hN0).1 5
          have n6 : w1.cell? ⟨w.heap.size, 6, none⟩ = some (.slice none 0 0) := (cells_at hN0).1 6
          have n7 : w1.cell? ⟨w.heap.size, 7, none⟩ = some (.int .i64 0) := (cells_at hN0).1 7
          have nf := (cells_at hN0).2.1
          have qn := (cells_at hN0).2.2
          clear hL2 h2 hE2 g2 hf hf' hN0 hon hn0
          dsimp only
          repeat (first | go_values | go_skip | go_guarded | go_step | go_upon)
          refine bodyPost_ret (v := .agg (ndC 1 [] 0 (.slice none 0 0) u2.pos).toArray) (by simp [ndC, mkS, wd_zero, results, Tryz.results62, go_sem, n0, n1, n2, n3, n4, n5, n6, n7]) rfl ?_
          refine ⟨f', _, HF.out, (ndC 1 [] 0 (.slice none 0 0) u2.pos).toArray, rfl, .mk .nil, ⟨o2, c2, ?_⟩, ?_, HE2.out, hlr⟩
          · repeat (with_reducible refine SR.set ?_ (by omega) (by omega) _ _)
            exact H2.out
          · repeat (with_reducible refine gby_set ?_ (Nat.le_refl _) _ _)
            exact G2.out
        · have hn1 : 0 < ns.length := by
            rcases Nat.eq_zero_or_pos ns.length with e | e
            · have := hL2.nil (List.eq_nil_of_length_eq_zero e)
              cases this
            · exact e
          obtain ⟨hBg, _, cur, hcur, _⟩ := owns_block hL2.own
          have hgl : g3 < w1.heap.size := (Array.getElem?_eq_some_iff.1 hcur).1
          have lc : w1.cell? ⟨w.heap.size + 1, 0, none⟩ = some (.slice (some ⟨g3, 0, none⟩) ns.length cap3) := (cells_at hL2.here).1 0
          have HN0 := Lib.hid hN0
          have hJ := Lib.hid (joined_any 6 hn1 rfl (by omega) hL2.own hL2.reps (fun b hb => hb.2.1))
          clear hL2 h2 hE2 g2 hf hf' hN0 hon hcur
          dsimp only
          repeat (first | go_values | go_skip | go_guarded | go_step | go_upon)
          refine hJ.out.mono ?_
          rintro e w2 ⟨jv, rfl, ⟨cj, rfl, hrep⟩, hb2⟩
          obtain ⟨k0, t0, x0, v0, l0, e1, e2, h3⟩ := hrep.form
          obtain ⟨sa, sn, sc, rfl⟩ := h3.slice
          subst e2
          have HR := Lib.hid hrep
          have hNb := (hb2.block w.heap.size (by omega)).trans HN0.out
          have H3 := Lib.hid (H2.out.below hb2)
          have G3 := Lib.hid (gby_below G2.out hb2)
          have n0 : w2.cell? ⟨w.heap.size, 0, none⟩ = some (.int .i64 0) := (cells_at hNb).1 0
          have n1 : w2.cell? ⟨w.heap.size, 1, none⟩ = some (.string ⟨#[]⟩) := (cells_at hNb).1 1
          have n2 : w2.cell? ⟨w.heap.size, 2, none⟩ = some (.int .u64 0) := (cells_at hNb).1 2
          have n3 : w2.cell? ⟨w.heap.size, 3, none⟩ = some (.int .u64 0) := (cells_at hNb).1 3
          have n4 : w2.cell? ⟨w.heap.size, 4, none⟩ = some (.int .u64 0) := (cells_at hNb).1 4
          have n5 : w2.cell? ⟨w.heap.size, 5, none⟩ = some (.int .u64 0) := (cells_at hNb).1 5
          have n6 : w2.cell? ⟨w.heap.size, 6, none⟩ = some (.slice none 0 0) := (cells_at hNb).1 6
          have n7 : w2.cell? ⟨w.heap.size, 7, none⟩ = some (.int .i64 0) := (cells_at hNb).1 7
          have nf := (cells_at hNb).2.1
          have qn := (cells_at hNb).2.2
          have z3 := hb2.size
          have HNe := Lib.hid (show ¬ ns.length = 0 by omega)
          clear hrep e1 h3 hNb hb2
          dsimp only [ndC]
          repeat (first | go_values | go_skip | go_guarded | go_step | go_upon)
          refine bodyPost_ret (v := .agg (ndC k0 t0 x0 (.slice sa sn sc) (joinN 6 ns).pos).toArray) (by simp [ndC, results, Tryz.results62, go_sem, n0, n1, n2, n3, n4, n5, n6, n7]) rfl ?_
          refine ⟨f', _, HF.out, (ndC k0 t0 x0 (.slice sa sn sc) (joinN 6 ns).pos).toArray, rfl, ?_, ⟨o2, c2, ?_⟩, ?_, HE2.out, hlr⟩
          · rw [if_neg HNe.out]
            refine rep_wide (P := Blk (w.heap.size + 1) w2.heap.size) ?_ (fun b h => h.fresh (by omega) (by simp))
            repeat (with_reducible refine rep_set ?_ (fun b h => by have := h.lo; omega) _ _)
            refine rep_wide HR.out (fun b h => ?_)
            rcases h with h | rfl
            · exact ⟨by have := h.1; omega, by have := h.2.1; omega⟩
            · exact ⟨by omega, by omega⟩
          · repeat (with_reducible refine SR.set ?_ (by omega) (by omega) _ _)
            exact H3.out
          · repeat (with_reducible refine gby_set ?_ (Nat.le_refl _) _ _)
            exact G3.out
      | some n =>
        obtain ⟨rfl, hL2, hR2, g2, hE2, hl2⟩ := hr
        have HX := Lib.hid (show RowI R g d w rs (ns ++ [n]) rs2 w1 from ⟨hR2, hL2, g2, hE2, by simp; omega⟩)
        have HO := Lib.hid (hon.out.some hf)
        clear hL2 hR2 g2 hf
        dsimp only
        repeat (first | go_values | go_skip | go_guarded | go_step | go_upon)
        refine ⟨⟨_, _, HX.out, HO⟩, ?_⟩
        rw [HX.out.meas, HRI.out.meas]
        exact hl2
end Go.Proofs.YtjlcoldnhbkcgaaGreatDoor
