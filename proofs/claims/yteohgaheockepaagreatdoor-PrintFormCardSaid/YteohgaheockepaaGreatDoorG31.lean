/- Two grammars compared as they lie anywhere: where they are the same, with or without their places. | What the door's rows have in common: the variable's cell out of 'laid', a world that meets it (after the guide's worked text ToyasProofs). -/
import Derived.Test.YteohgaheockepaaGreatDoorG6
import Derived.Test.YteohgaheockepaaGreatDoorRows
import Derived.Test.YteohgaheockepaaGreatDoorG29
import Derived.Test.YteohgaheockepaaGreatDoorG12
import Derived.ChangeSame
import Derived.ChangeVars
import Derived.JoinedOf
import Derived.RowKit
import Derived.RowKitTokens
import Derived.LaidLaws
import Derived.LaidHandle
import Derived.Stop.Joined
namespace Go.Proofs.YteohgaheockepaaGreatDoor
open Go.RowKit Go.Sort

theorem below_drews {w w1 : World} (h : Below w.drew.heap.size w.drew w1) : Below w.heap.size w w1.drew := ((drew_below w).trans h).trans ((drew_below w1).mono (by have := h.size; simpa using this))
set_option maxRecDepth 100000 in
set_option maxHeartbeats 6400000 in
theorem sameR_nil (at_ : Bool) {a a' : Option Addr} {cap cap' : Nat} (w : World) : Calls Tryz.prog 10 #[.agg #[.slice a 0 cap], .agg #[.slice a' 0 cap'], .bool at_] w (Ans (.bool true) w) := by
  have hm1 := cell_alloc_lt
  go_enter Tryz.func10, Tryz.ntmps10
  repeat (first | go_values | go_skip | go_guarded | go_step | go_upon)
  refine wp_loop_rounds 1 ?_
  rw [rounds_succ]
  repeat (first | go_values | go_skip | go_guarded | go_step | go_upon)
  go_ret
  exact ⟨rfl, (by repeat (first | exact Below.refl _ _ | assumption | refine bal ?_ _ | refine bdr ?_ | refine bdrn ?_ _ | (refine bset ?_ (by first | exact Nat.le_refl _ | (simp; done) | (simp; omega) | omega) _) | refine bstep ?_ (by assumption)))⟩
set_option maxRecDepth 100000 in
set_option maxHeartbeats 6400000 in
theorem sameR_rules (at_ : Bool) {n g g' o o' cap cap' : Nat} {l l' : List Rr} {P P' : Nat → Prop} (w : World) (hl : SameR at_ l l') (hn : l.length = n) (_ : n ≤ cap) (_ : n ≤ cap') (hmax : n ≤ maxLen) (hg : P g) (hg' : P' g') (r1 : RepR w P g o l) (r2 : RepR w P' g' o' l') (hP : ∀ b, P b → b < w.heap.size) (hP' : ∀ b, P' b → b < w.heap.size) :
    Calls Tryz.prog 10 #[.agg #[.slice (some ⟨g, o, none⟩) n cap], .agg #[.slice (some ⟨g', o', none⟩) n cap'], .bool at_] w (Ans (.bool true) w) := by
  have hm1 := cell_alloc_lt
  have HL := Lib.hid hl
  have HN := Lib.hid hn
  have hn' : l'.length = n := by rw [← hl.length]; exact hn
  have HN' := Lib.hid hn'
  have R1 := Lib.hid r1
  have R2 := Lib.hid r2
  have HG := Lib.hid hg
  have HG' := Lib.hid hg'
  have HP := Lib.hid hP
  have HP' := Lib.hid hP'
  have lg := hP g hg
  have lg' := hP' g' hg'
  unfold maxLen at hmax
  clear hl hn hn' r1 r2 hg hg' hP hP'
  go_enter Tryz.func10, Tryz.ntmps10
  repeat (first | go_values | go_skip | go_guarded | go_step | go_upon)
  go_loopw [7] (fun tt wr => ∃ j : Nat, tt = .int .i64 (j : Int) ∧ j ≤ n ∧ Below ((w.alloc (.cells #[.slice (some ⟨g, o, none⟩) n cap] 25)).alloc (.cells #[.slice (some ⟨g', o', none⟩) n cap'] 25)).heap.size ((w.alloc (.cells #[.slice (some ⟨g, o, none⟩) n cap] 25)).alloc (.cells #[.slice (some ⟨g', o', none⟩) n cap'] 25)) wr) (fun tt _ => n - (intOf tt).toNat)
  case atStart => exact ⟨0, rfl, Nat.zero_le _, Below.refl _ _⟩
  case round =>
    obtain ⟨j, rfl, hj, hbr⟩ := hrel
    have HB := Lib.hid hbr
    have hA := (hbr.block w.heap.size (by simp; omega)).trans ((RowKit.Below.heap_alloc _ _ _ (by simp)).trans (heap_alloc_new w (.cells #[.slice (some ⟨g, o, none⟩) n cap] 25)))
    have hB := (hbr.block (w.heap.size + 1) (by simp)).trans (allocs_new w (.cells #[.slice (some ⟨g, o, none⟩) n cap] 25) (.cells #[.slice (some ⟨g', o', none⟩) n cap'] 25))
    have s1 : wr.cell? ⟨w.heap.size, 0, none⟩ = some (.slice (some ⟨g, o, none⟩) n cap) := (cells_at hA).1 0
    have s2 : wr.cell? ⟨w.heap.size + 1, 0, none⟩ = some (.slice (some ⟨g', o', none⟩) n cap') := (cells_at hB).1 0
    have q1 := (cells_at hA).2.2
    have q2 := (cells_at hB).2.2
    have hw : Below w.heap.size w wr := (bal (bal (Below.refl _ w) _) _).trans (hbr.mono (by simp; omega))
    have HW := Lib.hid hw
    clear hA hB hbr hw
    by_cases hlt : j < n
    · obtain ⟨y, hy⟩ : ∃ y, l[j]? = some y := ⟨l[j]'(by rw [HN.out]; exact hlt), List.getElem?_eq_getElem (by rw [HN.out]; exact hlt)⟩
      obtain ⟨y', hy'⟩ : ∃ y', l'[j]? = some y' := ⟨l'[j]'(by rw [HN'.out]; exact hlt), List.getElem?_eq_getElem (by rw [HN'.out]; exact hlt)⟩
      obtain ⟨hnm, hsb, hpp⟩ := HL.out.get hy hy'
      obtain ⟨k1, t1, x1, sa, sn, sc, p1, l1, _, q0, _, a9, a0, a1, a2, a3, a4, a5, a6, a7, a8⟩ := (R1.out.mono (w' := wr) (P' := P) (fun b hb => HW.out.block b (HP.out b hb)) (fun _ h => h) HG.out).get hy
      obtain ⟨k2, t2, x2, sa2, sn2, sc2, p2, l2, _, q0', _, b9, b0, b1, b2, b3, b4, b5, b6, b7, b8⟩ := (R2.out.mono (w' := wr) (P' := P') (fun b hb => HW.out.block b (HP'.out b hb)) (fun _ h => h) HG'.out).get hy'
      have hz := HW.out.size
      have qg : g < wr.heap.size := Nat.lt_of_lt_of_le lg hz
      have qg' : g' < wr.heap.size := Nat.lt_of_lt_of_le lg' hz
      have HC := Lib.hid (fun (w' : World) (e : w'.heap = wr.heap) => sameT_any at_ y.body y'.body w' P P' _ _ hsb (q0.mono (w' := w') (fun b _ => by rw [e]) (fun _ h => h)) (q0'.mono (w' := w') (fun b _ => by rw [e]) (fun _ h => h)) (fun b hb => by rw [e]; exact Nat.lt_of_lt_of_le (HP.out b hb) hz) (fun b hb => by rw [e]; exact Nat.lt_of_lt_of_le (HP'.out b hb) hz))
      rw [← hnm] at b9
      clear hy hy' q0 q0' hsb hnm
      have d1 : decide ((j : Int) < n) = true := by simpa using hlt
      repeat (first | go_values | go_skip | go_guarded | go_step | go_upon)
      go_still_tail 13, (by kernel_rfl)
      repeat (first | go_values | go_skip | go_guarded | go_step | go_upon)
      refine (HC.out wr.drew rfl).mono ?_
      rintro e w1 ⟨rfl, hb1⟩
      obtain ⟨hc1, hf1⟩ := bcell hb1
      simp only [World.size_drew] at hc1
      have hz1 := hb1.size
      simp only [World.size_drew] at hz1
      dsimp only
      repeat (first | go_values | go_skip | go_guarded | go_step | go_upon)
      have s1' : w1.cell? ⟨w.heap.size, 0, none⟩ = some (.slice (some ⟨g, o, none⟩) n cap) := (hc1 _ _ q1).trans s1
      have s2' : w1.cell? ⟨w.heap.size + 1, 0, none⟩ = some (.slice (some ⟨g', o', none⟩) n cap') := (hc1 _ _ q2).trans s2
      have a8' : w1.cell? ⟨g, o + j * 10 + 9, none⟩ = some (.int .i64 y.pos) := (hc1 _ _ qg).trans a8
      have a9' : w1.cell? ⟨g, o + j * 10, none⟩ = some (.string (mkS y.name)) := (hc1 _ _ qg).trans a9
      have b8' : w1.cell? ⟨g', o' + j * 10 + 9, none⟩ = some (.int .i64 y'.pos) := (hc1 _ _ qg').trans b8
      have b9' : w1.cell? ⟨g', o' + j * 10, none⟩ = some (.string (mkS y.name)) := (hc1 _ _ qg').trans b9
      clear a0 a1 a2 a3 a4 a5 a6 a7 b0 b1 b2 b3 b4 b5 b6 b7 hm1 hc1 hf1 s1 s2 a8 a9 b8 b9
      cases at_ with
      | false =>
        clear hpp
        with_reducible refine wp_region_still_lit (by kernel_rfl) (by kernel_rfl) ?_
        repeat
          with_reducible refine wpStill_step (fun K hK => ?_)
          go_simp
          with_reducible refine hK _ ?_
          clear hK K
        with_reducible refine wpStill_nil ?_
        simp only [Exit.then]
        repeat (first | go_values | go_skip | go_guarded | go_step | go_upon)
        exact ⟨⟨j + 1, by go_num, by omega, HB.out.trans (below_drews hb1 |>.mono HB.out.size)⟩, by simp [intOf]; omega⟩
      | true =>
        rw [← hpp rfl] at b8'
        clear hpp
        with_reducible refine wp_region_still_lit (by kernel_rfl) (by kernel_rfl) ?_
        repeat
          with_reducible refine wpStill_step (fun K hK => ?_)
          go_simp
          with_reducible refine hK _ ?_
          clear hK K
        with_reducible refine wpStill_nil ?_
        simp only [Exit.then]
        repeat (first | go_values | go_skip | go_guarded | go_step | go_upon)
        exact ⟨⟨j + 1, by go_num, by omega, HB.out.trans (below_drews hb1 |>.mono HB.out.size)⟩, by simp [intOf]; omega⟩
    · have d1 : decide (j < n) = false := by simpa using hlt
      clear hlt
      repeat (first | go_values | go_skip | go_guarded | go_step | go_upon)
      go_ret
      exact ⟨rfl, (bal (bal (Below.refl _ w) _) _).trans (HB.out.mono (by simp; omega))⟩
theorem sameR_any (at_ : Bool) {gs gs' : List Rr} {v v' : Value} {P P' : Nat → Prop} (w : World) (h : SameR at_ gs gs') (g1 : RepGr w P gs v) (g2 : RepGr w P' gs' v') (hP : ∀ b, P b → b < w.heap.size) (hP' : ∀ b, P' b → b < w.heap.size) :
    Calls Tryz.prog 10 #[.agg #[v], .agg #[v'], .bool at_] w (Ans (.bool true) w) := by
  have hle := h.length
  rcases g1.parts with ⟨rfl, rfl⟩ | ⟨rfl, a, cap, rfl⟩ | ⟨g, o, cap, rfl, hg, hpos, hcap, hmax, hr⟩
  · rcases g2.parts with ⟨rfl, rfl⟩ | ⟨rfl, a', cap', rfl⟩ | ⟨g', o', cap', rfl, hg', hpos', hcap', hmax', hr'⟩
    · exact sameR_nil at_ w
    · exact sameR_nil at_ w
    · rw [List.length_nil] at hle; omega
  · rcases g2.parts with ⟨rfl, rfl⟩ | ⟨rfl, a', cap', rfl⟩ | ⟨g', o', cap', rfl, hg', hpos', hcap', hmax', hr'⟩
    · exact sameR_nil at_ w
    · exact sameR_nil at_ w
    · rw [List.length_nil] at hle; omega
  · rcases g2.parts with ⟨rfl, rfl⟩ | ⟨rfl, a', cap', rfl⟩ | ⟨g', o', cap', rfl, hg', hpos', hcap', hmax', hr'⟩
    · rw [List.length_nil] at hle; omega
    · rw [List.length_nil] at hle; omega
    · rw [← hle] at hcap' ⊢
      exact sameR_rules at_ w h rfl hcap hcap' hmax hg hg' hr hr' hP hP'
end Go.Proofs.YteohgaheockepaaGreatDoor
namespace Go.Proofs.YteohgaheockepaaGreatDoor
open Go.ChangeShapes Go.WideShapes Go.RowKit
def laidL : List (String × DataW Unit) := [("errors.errorType", Rows.laid_errors_errorType)]
theorem door_et : Tryz.prog.globalNamed "errors.errorType" = some 0 := by kernel_rfl
theorem door_rt : (Tryz.prog.cutTypes.find? (·.1 == "internal/reflectlite.rtype")).map (·.2) = some 141 := by kernel_rfl
theorem door_row : ((List.range 217).filter fun t => Tryz.prog.rowNamed t [101, 114, 114, 111, 114]) = [27] := by kernel_rfl
theorem door_size : Tryz.prog.types.size = 217 := by kernel_rfl
theorem handle_of_laid {W : World} (h : laidMetH Tryz.prog laidL W) : Laid W := by
  have h' : laidMet Tryz.prog [] W ∧ handlesMet Tryz.prog laidL W := h
  obtain ⟨name, u, ty, e1, e2, e3, e4, e5⟩ := h'.2 _ (List.mem_singleton.2 rfl)
  have en : name = [101, 114, 114, 111, 114] := (Option.some.inj e1).symm
  subst en
  obtain rfl := Option.some.inj (door_rt.symm.trans e2)
  have hm : ty ∈ (List.range 217).filter fun t => Tryz.prog.rowNamed t [101, 114, 114, 111, 114] := List.mem_filter.2 ⟨List.mem_range.2 (by rw [← door_size]; exact e3), e4⟩
  rw [door_row] at hm
  obtain rfl := List.mem_singleton.1 hm
  have hh : typeHandle Tryz.prog 27 = .pointer (some ⟨2, 27, none⟩) := by kernel_rfl
  rw [hh] at e5
  unfold Laid
  simpa using World.var?_cell door_et e5 0
noncomputable def laidWorld (os : Os) : World :=
  let w0 := World.holding Tryz.prog os ⟨#[], #[], []⟩
  { w0 with heap := w0.heap.modify 0 fun
      | .cells _ t frozen => .cells #[.iface 141 (.agg #[.pointer (some ⟨2, 27, none⟩)])] t frozen
      | o => o }
theorem laidWorld_met (os : Os) (args : Array Value) : laidMetH Tryz.prog laidL ((laidWorld os).forCall (fun _ _ => 0) ⟨#[], args, []⟩).memory :=
  laidMetH_of_parts (laidMet_nil _ _) (by kernel_rfl)
end Go.Proofs.YteohgaheockepaaGreatDoor
