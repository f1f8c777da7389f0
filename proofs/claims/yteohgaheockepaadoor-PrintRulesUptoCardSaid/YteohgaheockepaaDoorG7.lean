/- Two grammars compared as they lie anywhere: where they are the same, with or without their places. -/
import Derived.Test.YteohgaheockepaaDoorG6
namespace Go.Proofs.YteohgaheockepaaDoor
open Go.RowKit Go.Sort

theorem below_drews {w w1 : World} (h : Below w.drew.heap.size w.drew w1) : Below w.heap.size w w1.drew := ((drew_below w).trans h).trans ((drew_below w1).mono (by have := h.size; simpa using this))
set_option maxRecDepth 100000 in
set_option maxHeartbeats 6400000 in
theorem sameR_nil (at_ : Bool) {a a' : Option Addr} {cap cap' : Nat} (w : World) : Calls Tryd.prog 9 #[.agg #[.slice a 0 cap], .agg #[.slice a' 0 cap'], .bool at_] w (Ans (.bool true) w) := by
  have hm1 := cell_alloc_lt
  go_enter Tryd.func9, Tryd.ntmps9
  repeat (first | go_values | go_skip | go_guarded | go_step | go_upon)
  refine wp_loop_rounds 1 ?_
  rw [rounds_succ]
  repeat (first | go_values | go_skip | go_guarded | go_step | go_upon)
  go_ret
  exact ⟨rfl, (by repeat (first | exact Below.refl _ _ | assumption | refine bal ?_ _ | refine bdr ?_ | refine bdrn ?_ _ | (refine bset ?_ (by first | exact Nat.le_refl _ | (simp; done) | (simp; omega) | omega) _) | refine bstep ?_ (by assumption)))⟩
set_option maxRecDepth 100000 in
set_option maxHeartbeats 6400000 in
theorem sameR_rules (at_ : Bool) {n g g' o o' cap cap' : Nat} {l l' : List Rr} {P P' : Nat → Prop} (w : World) (hl : SameR at_ l l') (hn : l.length = n) (_ : n ≤ cap) (_ : n ≤ cap') (hmax : n ≤ maxLen) (hg : P g) (hg' : P' g') (r1 : RepR w P g o l) (r2 : RepR w P' g' o' l') (hP : ∀ b, P b → b < w.heap.size) (hP' : ∀ b, P' b → b < w.heap.size) :
    Calls Tryd.prog 9 #[.agg #[.slice (some ⟨g, o, none⟩) n cap], .agg #[.slice (some ⟨g', o', none⟩) n cap'], .bool at_] w (Ans (.bool true) w) := by
  have hm1 := cell_alloc_lt
  have HL := Lib.hid hl
  have HN := Lib.hid hn
  have hn' : l'.length = n := by rw [← hl.length]; exact hn
  have HN' := Lib.hid hn'
  have R1 := Lib.hid r1
  have R2 := Lib.hid r2
  have HG := Lib.hid hg
  have HG' := Lib.hid hg'
  have HP := Lib.hid hP
  have HP' := Lib.hid hP'
  have lg := hP g hg
  have lg' := hP' g' hg'
  unfold maxLen at hmax
  clear hl hn hn' r1 r2 hg hg' hP hP'
  go_enter Tryd.func9, Tryd.ntmps9
  repeat (first | go_values | go_skip | go_guarded | go_step | go_upon)
  go_loopw [7] (fun tt wr => ∃ j : Nat, tt = .int .i64 (j : Int) ∧ j ≤ n ∧ Below ((w.alloc (.cells #[.slice (some ⟨g, o, none⟩) n cap] 24)).alloc (.cells #[.slice (some ⟨g', o', none⟩) n cap'] 24)).heap.size ((w.alloc (.cells #[.slice (some ⟨g, o, none⟩) n cap] 24)).alloc (.cells #[.slice (some ⟨g', o', none⟩) n cap'] 24)) wr) (fun tt _ => n - (intOf tt).toNat)
  case atStart => exact ⟨0, rfl, Nat.zero_le _, Below.refl _ _⟩
  case round =>
    obtain ⟨j, rfl, hj, hbr⟩ := hrel
    have HB := Lib.hid hbr
    have hA := (hbr.block w.heap.size (by simp; omega)).trans ((RowKit.Below.heap_alloc _ _ _ (by simp)).trans (heap_alloc_new w (.cells #[.slice (some ⟨g, o, none⟩) n cap] 24)))
    have hB := (hbr.block (w.heap.size + 1) (by simp)).trans (allocs_new w (.cells #[.slice (some ⟨g, o, none⟩) n cap] 24) (.cells #[.slice (some ⟨g', o', none⟩) n cap'] 24))
    have s1 : wr.cell? ⟨w.heap.size, 0, none⟩ = some (.slice (some ⟨g, o, none⟩) n cap) := (cells_at hA).1 0
    have s2 : wr.cell? ⟨w.heap.size + 1, 0, none⟩ = some (.slice (some ⟨g', o', none⟩) n cap') := (cells_at hB).1 0
    have q1 := (cells_at hA).2.2
    have q2 := (cells_at hB).2.2
    have hw : Below w.heap.size w wr := (bal (bal (Below.refl _ w) _) _).trans (hbr.mono (by simp; omega))
    have HW := Lib.hid hw
    clear hA hB hbr hw
    by_cases hlt : j < n
    · obtain ⟨y, hy⟩ : ∃ y, l[j]? = some y := ⟨l[j]'(by rw [HN.out]; exact hlt), List.getElem?_eq_getElem (by rw [HN.out]; exact hlt)⟩
      obtain ⟨y', hy'⟩ : ∃ y', l'[j]? = some y' := ⟨l'[j]'(by rw [HN'.out]; exact hlt), List.getElem?_eq_getElem (by rw [HN'.out]; exact hlt)⟩
      obtain ⟨hnm, hsb, hpp⟩ := HL.out.get hy hy'
      obtain ⟨k1, t1, x1, sa, sn, sc, p1, l1, _, q0, _, a9, a0, a1, a2, a3, a4, a5, a6, a7, a8⟩ := (R1.out.mono (w' := wr) (P' := P) (fun b hb => HW.out.block b (HP.out b hb)) (fun _ h => h) HG.out).get hy
      obtain ⟨k2, t2, x2, sa2, sn2, sc2, p2, l2, _, q0', _, b9, b0, b1, b2, b3, b4, b5, b6, b7, b8⟩ := (R2.out.mono (w' := wr) (P' := P') (fun b hb => HW.out.block b (HP'.out b hb)) (fun _ h => h) HG'.out).get hy'
      have hz := HW.out.size
      have qg : g < wr.heap.size := Nat.lt_of_lt_of_le lg hz
      have qg' : g' < wr.heap.size := Nat.lt_of_lt_of_le lg' hz
      have HC := Lib.hid (fun (w' : World) (e : w'.heap = wr.heap) => sameT_any at_ y.body y'.body w' P P' _ _ hsb (q0.mono (w' := w') (fun b _ => by rw [e]) (fun _ h => h)) (q0'.mono (w' := w') (fun b _ => by rw [e]) (fun _ h => h)) (fun b hb => by rw [e]; exact Nat.lt_of_lt_of_le (HP.out b hb) hz) (fun b hb => by rw [e]; exact Nat.lt_of_lt_of_le (HP'.out b hb) hz))
      rw [← hnm] at b9
      clear hy hy' q0 q0' hsb hnm
      have d1 : decide ((j : Int) < n) = true := by simpa using hlt
      repeat (first | go_values | go_skip | go_guarded | go_step | go_upon)
      go_still_tail 13, (by kernel_rfl)
      repeat (first | go_values | go_skip | go_guarded | go_step | go_upon)
      refine (HC.out wr.drew rfl).mono ?_
      rintro e w1 ⟨rfl, hb1⟩
      obtain ⟨hc1, hf1⟩ := bcell hb1
      simp only [World.size_drew] at hc1
      have hz1 := hb1.size
      simp only [World.size_drew] at hz1
      dsimp only
      repeat (first | go_values | go_skip | go_guarded | go_step | go_upon)
      have s1' : w1.cell? ⟨w.heap.size, 0, none⟩ = some (.slice (some ⟨g, o, none⟩) n cap) := (hc1 _ _ q1).trans s1
      have s2' : w1.cell? ⟨w.heap.size + 1, 0, none⟩ = some (.slice (some ⟨g', o', none⟩) n cap') := (hc1 _ _ q2).trans s2
      have a8' : w1.cell? ⟨g, o + j * 10 + 9, none⟩ = some (.int .i64 y.pos) := (hc1 _ _ qg).trans a8
      have a9' : w1.cell? ⟨g, o + j * 10, none⟩ = some (.string (mkS y.name)) := (hc1 _ _ qg).trans a9
      have b8' : w1.cell? ⟨g', o' + j * 10 + 9, none⟩ = some (.int .i64 y'.pos) := (hc1 _ _ qg').trans b8
      have b9' : w1.cell? ⟨g', o' + j * 10, none⟩ = some (.string (mkS y.name)) := (hc1 _ _ qg').trans b9
      clear a0 a1 a2 a3 a4 a5 a6 a7 b0 b1 b2 b3 b4 b5 b6 b7 hm1 hc1 hf1 s1 s2 a8 a9 b8 b9
      cases at_ with
      | false =>
        clear hpp
        with_reducible refine wp_region_still_lit (by kernel_rfl) (by kernel_rfl) ?_
        repeat
          with_reducible refine wpStill_step (fun K hK => ?_)
          go_simp
          with_reducible refine hK _ ?_
          clear hK K
        with_reducible refine wpStill_nil ?_
        simp only [Exit.then]
        repeat (first | go_values | go_skip | go_guarded | go_step | go_upon)
        exact ⟨⟨j + 1, by go_num, by omega, HB.out.trans (below_drews hb1 |>.mono HB.out.size)⟩, by simp [intOf]; omega⟩
      | true =>
        rw [← hpp rfl] at b8'
        clear hpp
        with_reducible refine wp_region_still_lit (by kernel_rfl) (by kernel_rfl) ?_
        repeat
          with_reducible refine wpStill_step (fun K hK => ?_)
          go_simp
          with_reducible refine hK _ ?_
          clear hK K
        with_reducible refine wpStill_nil ?_
        simp only [Exit.then]
        repeat (first | go_values | go_skip | go_guarded | go_step | go_upon)
        exact ⟨⟨j + 1, by go_num, by omega, HB.out.trans (below_drews hb1 |>.mono HB.out.size)⟩, by simp [intOf]; omega⟩
    · have d1 : decide (j < n) = false := by simpa using hlt
      clear hlt
      repeat (first | go_values | go_skip | go_guarded | go_step | go_upon)
      go_ret
      exact ⟨rfl, (bal (bal (Below.refl _ w) _) _).trans (HB.out.mono (by simp; omega))⟩
theorem sameR_any (at_ : Bool) {gs gs' : List Rr} {v v' : Value} {P P' : Nat → Prop} (w : World) (h : SameR at_ gs gs') (g1 : RepGr w P gs v) (g2 : RepGr w P' gs' v') (hP : ∀ b, P b → b < w.heap.size) (hP' : ∀ b, P' b → b < w.heap.size) :
    Calls Tryd.prog 9 #[.agg #[v], .agg #[v'], .bool at_] w (Ans (.bool true) w) := by
  have hle := h.length
  rcases g1.parts with ⟨rfl, rfl⟩ | ⟨rfl, a, cap, rfl⟩ | ⟨g, o, cap, rfl, hg, hpos, hcap, hmax, hr⟩
  · rcases g2.parts with ⟨rfl, rfl⟩ | ⟨rfl, a', cap', rfl⟩ | ⟨g', o', cap', rfl, hg', hpos', hcap', hmax', hr'⟩
    · exact sameR_nil at_ w
    · exact sameR_nil at_ w
    · rw [List.length_nil] at hle; omega
  · rcases g2.parts with ⟨rfl, rfl⟩ | ⟨rfl, a', cap', rfl⟩ | ⟨g', o', cap', rfl, hg', hpos', hcap', hmax', hr'⟩
    · exact sameR_nil at_ w
    · exact sameR_nil at_ w
    · rw [List.length_nil] at hle; omega
  · rcases g2.parts with ⟨rfl, rfl⟩ | ⟨rfl, a', cap', rfl⟩ | ⟨g', o', cap', rfl, hg', hpos', hcap', hmax', hr'⟩
    · rw [List.length_nil] at hle; omega
    · rw [List.length_nil] at hle; omega
    · rw [← hle] at hcap' ⊢
      exact sameR_rules at_ w h rfl hcap hcap' hmax hg hg' hr hr' hP hP'
end Go.Proofs.YteohgaheockepaaDoor
