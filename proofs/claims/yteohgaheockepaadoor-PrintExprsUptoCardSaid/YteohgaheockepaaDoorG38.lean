/- The walk of the printer laws' small case. | The walk of PrintBack. -/
import Derived.Test.YteohgaheockepaaDoorG37
import Derived.Test.YteohgaheockepaaDoorG7
namespace Go.Proofs.YteohgaheockepaaDoor
open Go.RowKit Go.Sort

theorem gbulk {w : World} {P : Nat → Prop} {gs : List Ru} {v : Value} (h : GRep w P gs v) : ∃ a cap, v = .slice a gs.length cap := by
  obtain ⟨a, cap, e, _⟩ := h.anyG.slice
  rw [List.length_map] at e
  exact ⟨a, cap, e⟩
theorem small5_bulk : Rr.bulks (small5G.map Ru.rr) ≤ 1000000000 := by
  simp [small5G, Ru.rr, Nd.tr, Nd.trs, Rr.bulks, Rr.bulk, Tr.bulk, Tr.bulks]
set_option maxRecDepth 100000 in
set_option maxHeartbeats 3200000 in
theorem small5_any (w : World) (hg : Laid w) : Calls Tryd.prog 6 #[] w (Ans (.bool true) w) := by
  have HR := Lib.hid (show Reads (bl ⟨#[97, 60, 45, 40, 40, 39, 120, 39, 41, 41, 47, 98, 42, 33, 40, 99, 32, 100, 41]⟩) _ from small5_reads)
  have HL := Lib.hid hg
  have hm1 := cell_alloc_lt
  clear hg
  go_enter Tryd.func6, Tryd.ntmps6
  repeat (first | go_values | go_skip | go_guarded | go_step | go_upon)
  refine (syn_inr ⟨#[97, 60, 45, 40, 40, 39, 120, 39, 41, 41, 47, 98, 42, 33, 40, 99, 32, 100, 41]⟩ _ HL.out (by decide) HR.out).mono ?_
  rintro e w1 ⟨⟨v, rfl, hG⟩, hb1⟩
  obtain ⟨a, cap, rfl⟩ := gbulk hG
  have HG := Lib.hid hG.anyG
  have HB := Lib.hid hb1
  clear hG
  dsimp only
  repeat (first | go_values | go_skip | go_guarded | go_step | go_upon)
  refine (print_any _ (HL.out.below (by repeat (first | exact Below.refl _ _ | assumption | refine bal ?_ _ | refine bdr ?_ | refine bdrn ?_ _ | (refine bset ?_ (by first | exact Nat.le_refl _ | (simp; done) | (simp; omega) | omega) _) | refine bstep ?_ (by assumption))) HL.out.pos) (HG.out.mono (fun b hb => RowKit.Below.heap_alloc _ _ _ hb.2) (fun _ h => h)) (fun b hb => by have := hb.2; simp; omega) small5_bulk).mono ?_
  rintro e w2 ⟨⟨r, hr2, rfl⟩, hb2⟩
  obtain rfl := small5_res hr2
  dsimp only [prVal, small5U]
  repeat (first | go_values | go_skip | go_guarded | go_step | go_upon)
  go_ret
  exact ⟨rfl, (by repeat (first | exact Below.refl _ _ | assumption | refine bal ?_ _ | refine bdr ?_ | refine bdrn ?_ _ | (refine bset ?_ (by first | exact Nat.le_refl _ | (simp; done) | (simp; omega) | omega) _) | refine bstep ?_ (by assumption)))⟩
end Go.Proofs.YteohgaheockepaaDoor
namespace Go.Proofs.YteohgaheockepaaDoor
open Go.RowKit Go.Sort

theorem bytes_app (a b : List UInt8) : (⟨a.toArray⟩ : ByteArray) ++ ⟨b.toArray⟩ = ⟨(a ++ b).toArray⟩ := by
  apply ByteArray.ext
  simp
theorem bl_mk (a : List UInt8) : bl (⟨a.toArray⟩ : ByteArray) = a := by simp [bl]
set_option maxRecDepth 100000 in
set_option maxHeartbeats 6400000 in
theorem pback_any {g : List Rr} {v : Value} {P : Nat → Prop} (w : World) (hg : Laid w) (hr : RepGr w P g v) (hP : ∀ b, P b → b < w.heap.size) (hb : Rr.bulks g ≤ 1048576) : Calls Tryd.prog 3 #[.agg #[v]] w (Ans (.bool true) w) := by
  obtain ⟨a, cap, rfl, _⟩ := hr.slice
  have HL := Lib.hid hg
  have HR := Lib.hid hr
  have HP := Lib.hid hP
  have HB := Lib.hid hb
  have hm1 := cell_alloc_lt
  clear hg hr hP hb
  go_enter Tryd.func3, Tryd.ntmps3
  repeat (first | go_values | go_skip | go_guarded | go_step | go_upon)
  refine (small5_any _ (HL.out.below (by repeat (first | exact Below.refl _ _ | assumption | refine bal ?_ _ | refine bdr ?_ | refine bdrn ?_ _ | (refine bset ?_ (by first | exact Nat.le_refl _ | (simp; done) | (simp; omega) | omega) _) | refine bstep ?_ (by assumption))) HL.out.pos)).mono ?_
  rintro e w1 ⟨rfl, hb1⟩
  obtain ⟨hc1, hf1⟩ := bcell hb1
  have hz1 := hb1.size
  try simp at hz1
  have q1_0 : w.heap.size < w1.heap.size := by omega
  dsimp only
  have hw1 : Below w.heap.size w w1 := (by repeat (first | exact Below.refl _ _ | assumption | refine bal ?_ _ | refine bdr ?_ | refine bdrn ?_ _ | (refine bset ?_ (by first | exact Nat.le_refl _ | (simp; done) | (simp; omega) | omega) _) | refine bstep ?_ (by assumption)))
  repeat (first | go_values | go_skip | go_guarded | go_step | go_upon)
  refine (print_any _ (HL.out.below hw1 HL.out.pos) (HR.out.on HP.out hw1) (fun b hb => Nat.lt_of_lt_of_le (HP.out b hb) hw1.size) (by have := HB.out; omega)).mono ?_
  rintro e w2 ⟨⟨r, hr2, rfl⟩, hb2⟩
  have hw2 : Below w.heap.size w w2 := hw1.trans (hb2.mono hw1.size)
  cases r with
  | inl c =>
    clear hr2
    dsimp only [prVal]
    repeat (first | go_values | go_skip | go_guarded | go_step | go_upon)
    go_ret
    exact ⟨rfl, (by repeat (first | exact Below.refl _ _ | assumption | refine bal ?_ _ | refine bdr ?_ | refine bdrn ?_ _ | (refine bset ?_ (by first | exact Nat.le_refl _ | (simp; done) | (simp; omega) | omega) _) | refine bstep ?_ (by assumption)))⟩
  | inr s =>
    obtain ⟨rfl, h8, hs, hrd, hsame⟩ := res_reads hr2
    have HRD := Lib.hid (show Reads (bl ⟨(txG g).toArray⟩) (.inr hs) by rw [bl_mk]; exact hrd)
    have HS := Lib.hid hsame
    have hsz : (⟨(txG g).toArray⟩ : ByteArray).size ≤ 140737488355328 := by rw [← bl_length, bl_mk]; omega
    have HZ := Lib.hid hsz
    clear hr2 hrd hsame hsz h8
    dsimp only [prVal]
    repeat (first | go_values | go_skip | go_guarded | go_step | go_upon)
    refine (syn_inr ⟨(txG g).toArray⟩ _ (HL.out.below (by repeat (first | exact Below.refl _ _ | assumption | refine bal ?_ _ | refine bdr ?_ | refine bdrn ?_ _ | (refine bset ?_ (by first | exact Nat.le_refl _ | (simp; done) | (simp; omega) | omega) _) | refine bstep ?_ (by assumption))) HL.out.pos) HZ.out HRD.out).mono ?_
    rintro e w3 ⟨⟨v3, rfl, hG⟩, hb3⟩
    obtain ⟨a3, cap3, rfl⟩ := gbulk hG
    have HG := Lib.hid hG.anyG
    have hw3 : Below w.heap.size w w3 := hw2.trans (hb3.mono hw2.size)
    have q2 : w.heap.size < w2.heap.size := Nat.lt_of_lt_of_le q1_0 hb2.size
    have q3 : w.heap.size < w3.heap.size := Nat.lt_of_lt_of_le q2 hb3.size
    have c3 : w3.cell? ⟨w.heap.size, 0, none⟩ = some (.slice a g.length cap) := (hb3.cell (p := ⟨w.heap.size, 0, none⟩) q2).trans ((hb2.cell (p := ⟨w.heap.size, 0, none⟩) q1_0).trans ((hb1.cell (p := ⟨w.heap.size, 0, none⟩) (by simp)).trans (by simp)))
    have HW := Lib.hid (fun (w' : World) (h : Below w3.heap.size w3 w') => sameR_any false w' HS.out (HR.out.on HP.out (hw3.trans (h.mono hw3.size))) (HG.out.mono (w' := w') (fun b hb => h.block b hb.2) (fun _ h => h)) (fun b hb => Nat.lt_of_lt_of_le (HP.out b hb) (hw3.trans (h.mono hw3.size)).size) (fun b hb => Nat.lt_of_lt_of_le hb.2 h.size))
    clear hG
    dsimp only
    repeat (first | go_values | go_skip | go_guarded | go_step | go_upon)
    refine (HW.out _ (by repeat (first | exact Below.refl _ _ | assumption | refine bal ?_ _ | refine bdr ?_ | refine bdrn ?_ _ | (refine bset ?_ (by first | exact Nat.le_refl _ | (simp; done) | (simp; omega) | omega) _) | refine bstep ?_ (by assumption)))).mono ?_
    rintro e w4 ⟨rfl, hb4⟩
    obtain ⟨hc4, hf4⟩ := bcell hb4
    have hz4 := hb4.size
    try simp at hz4
    dsimp only
    repeat (first | go_values | go_skip | go_guarded | go_step | go_upon)
    go_ret
    exact ⟨rfl, (by repeat (first | exact Below.refl _ _ | assumption | refine bal ?_ _ | refine bdr ?_ | refine bdrn ?_ _ | (refine bset ?_ (by first | exact Nat.le_refl _ | (simp; done) | (simp; omega) | omega) _) | refine bstep ?_ (by assumption)))⟩
end Go.Proofs.YteohgaheockepaaDoor
