/- The walk of the syntax laws' small case. | The walk of PrintExprs. -/
import Derived.Test.YteohgaheockepaaDoorG25
import Derived.Test.YteohgaheockepaaDoorG38
namespace Go.Proofs.YteohgaheockepaaDoor
open Go.RowKit Go.Sort

theorem rep_kind {w : World} {P : Nat → Prop} {k a p p' : Nat} {t t' : List UInt8} {c c' : BitVec 256} {l : List Nd} {v : Value} (h : Rep w P (.mk k t c l p) (ndC a t' c' v p')) : a = k := by
  obtain ⟨k2, t2, x2, v2, l2, e1, e2, _⟩ := h.form
  injection e1 with e3
  simp only [ndC, List.cons.injEq, Value.int.injEq] at e2
  omega
/-- A grammar that is not empty, in memory. -/
theorem GRep.row {w : World} {P : Nat → Prop} {gs : List Ru} {v : Value} (h : GRep w P gs v) (h0 : gs ≠ []) : ∃ b cap cur cs, v = .slice (some ⟨b, 0, none⟩) gs.length cap ∧ P b ∧ w.heap[b]? = some (.cells cur 41 (0, 0)) ∧ gs.length ≤ cap ∧ gs.length ≤ maxLen ∧ cur.toList.take (gs.length * 10) = cs ∧ RuReps w P gs cs := by
  rcases h with ⟨rfl, _⟩ | ⟨b, cap, cur, cs, h1, h2, h3, h4, h5, h6, h7, h8⟩
  · exact absurd rfl h0
  · exact ⟨b, cap, cur, cs, h1, h2, h3, h4, h5, h7, h8⟩
end Go.Proofs.YteohgaheockepaaDoor
namespace Go.Proofs.YteohgaheockepaaDoor
open Go.RowKit Go.Sort

mutual
theorem SameT.flip {n m : Tr} : SameT false n m → SameT false m n
  | .mk _ h => .mk (fun h => by cases h) (SameU.flip h)
theorem SameU.flip {l m : List Tr} : SameU false l m → SameU false m l
  | .nil => .nil
  | .cons h1 h2 => .cons (SameT.flip h1) (SameU.flip h2)
end
set_option maxRecDepth 100000 in
set_option maxHeartbeats 6400000 in
theorem pexprs_any {n : Tr} {c : List Value} {P : Nat → Prop} (w : World) (hg : Laid w) (hr : RepA w P n c) (hP : ∀ b, P b → b < w.heap.size) (hb : n.bulk ≤ 1048576) : Calls Tryd.prog 5 #[.agg c.toArray] w (Ans (.bool true) w) := by
  obtain ⟨k, t, x, v, l, p, hn, rfl, hl⟩ := hr.form
  obtain ⟨sa, cap, rfl, _⟩ := hl.slice
  have HL := Lib.hid hg
  have HP := Lib.hid hP
  have hm1 := cell_alloc_lt
  have HR := Lib.hid (fun (w' : World) (h : Below w.heap.size w w') => hr.mono (w' := w') (fun b hb => h.block b (hP b hb)) (fun _ h => h))
  have HX := Lib.hid (fun (w' : World) (h : Below w.heap.size w w') => pexpr_any w' (hg.below h hg.pos) (hr.mono (w' := w') (fun b hb => h.block b (hP b hb)) (fun _ h => h)) (fun b hb => Nat.lt_of_lt_of_le (hP b hb) h.size) (by omega))
  dsimp only [trC] at HX HR
  clear hg hr hP hb hl hn
  dsimp only [trC]
  go_enter Tryd.func5, Tryd.ntmps5
  repeat (first | go_values | go_skip | go_guarded | go_step | go_upon)
  refine (small5_any _ (HL.out.below (by repeat (first | exact Below.refl _ _ | assumption | refine bal ?_ _ | refine bdr ?_ | refine bdrn ?_ _ | (refine bset ?_ (by first | exact Nat.le_refl _ | (simp; done) | (simp; omega) | omega) _) | refine bstep ?_ (by assumption))) HL.out.pos)).mono ?_
  rintro e w1 ⟨rfl, hb1⟩
  obtain ⟨hc1, hf1⟩ := bcell hb1
  have hz1 := hb1.size
  try simp at hz1
  have q1_0 : w.heap.size < w1.heap.size := by omega
  dsimp only
  have hw1 : Below w.heap.size w w1 := (by repeat (first | exact Below.refl _ _ | assumption | refine bal ?_ _ | refine bdr ?_ | refine bdrn ?_ _ | (refine bset ?_ (by first | exact Nat.le_refl _ | (simp; done) | (simp; omega) | omega) _) | refine bstep ?_ (by assumption)))
  repeat (first | go_values | go_skip | go_guarded | go_step | go_upon)
  refine (HX.out _ hw1).mono ?_
  rintro e w2 ⟨⟨r, hr2, rfl⟩, hb2⟩
  have hw2 : Below w.heap.size w w2 := hw1.trans (hb2.mono hw1.size)
  have HR2 := Lib.hid hr2
  clear hr2
  dsimp only
  cases hx : exprOf r with
  | nil =>
    clear hx
    repeat (first | go_values | go_skip | go_guarded | go_step | go_upon)
    go_ret
    exact ⟨rfl, (by repeat (first | exact Below.refl _ _ | assumption | refine bal ?_ _ | refine bdr ?_ | refine bdrn ?_ _ | (refine bset ?_ (by first | exact Nat.le_refl _ | (simp; done) | (simp; omega) | omega) _) | refine bstep ?_ (by assumption)))⟩
  | cons b0 l0 =>
    have hE := expr_nil HR2.out
    rw [hx] at hE
    obtain ⟨e1, ho, hf, h8⟩ := hE.resolve_left (by simp)
    have hne : (txT n).isEmpty = false := by rw [← e1]; rfl
    rw [e1]
    obtain ⟨m, px, hrd, hsame⟩ := expr_reads ho hf h8
    have hA : (⟨#[114, 32, 60, 45, 32]⟩ : ByteArray) ++ ⟨(txT n).toArray⟩ = ⟨(114 :: 32 :: 60 :: 45 :: 32 :: txT n).toArray⟩ := bytes_app [114, 32, 60, 45, 32] (txT n)
    have hs1 : (⟨(txT n).toArray⟩ : ByteArray).size = (txT n).length := by rw [← bl_length, bl_mk]
    have n1 : ¬ 9223372036854775807 < 5 + (txT n).length := by omega
    have HRD := Lib.hid (show Reads (bl ⟨(114 :: 32 :: 60 :: 45 :: 32 :: txT n).toArray⟩) (.inr [⟨[114], m, px⟩]) by rw [bl_mk]; exact hrd)
    have HZ := Lib.hid (show (⟨(114 :: 32 :: 60 :: 45 :: 32 :: txT n).toArray⟩ : ByteArray).size ≤ 140737488355328 by rw [← bl_length, bl_mk]; simp; omega)
    have HS := Lib.hid hsame.flip
    clear hx e1 hE HR2 hrd hsame ho hf
    repeat (first | go_values | go_skip | go_guarded | go_step | go_upon)
    refine (syn_inr ⟨(114 :: 32 :: 60 :: 45 :: 32 :: txT n).toArray⟩ _ (HL.out.below hw2 HL.out.pos) HZ.out HRD.out).mono ?_
    rintro e w3 ⟨⟨v, rfl, hG⟩, hb3⟩
    obtain ⟨g3, cap3, cur, cs, rfl, hP3, hh, hcap, hmax, ht, hrr⟩ := hG.row (by simp)
    obtain ⟨k3, t3, x3, sa3, sn3, sc3, q0, a9, a0, a1, a2, a3, a4, a5, a6, a7, a8⟩ := rule_cells rfl hh ht hrr (k := 0) rfl
    have hw3 : Below w.heap.size w w3 := hw2.trans (hb3.mono hw2.size)
    have q3 : g3 < w3.heap.size := (Array.getElem?_eq_some_iff.1 hh).1
    have q2 : w.heap.size < w3.heap.size := Nat.lt_of_lt_of_le (Nat.lt_of_lt_of_le q1_0 hb2.size) hb3.size
    have cb : ∀ j, w3.cell? ⟨w.heap.size, j, none⟩ = (w.alloc (.cells #[.int .i64 k, .string (mkS t), .int .u64 (wd x 0), .int .u64 (wd x 1), .int .u64 (wd x 2), .int .u64 (wd x 3), .slice sa l.length cap, .int .i64 p] 39)).cell? ⟨w.heap.size, j, none⟩ := fun j => (hb3.cell (p := ⟨w.heap.size, j, none⟩) (Nat.lt_of_lt_of_le q1_0 hb2.size)).trans ((hb2.cell (p := ⟨w.heap.size, j, none⟩) q1_0).trans (hb1.cell (p := ⟨w.heap.size, j, none⟩) (by simp)))
    have HS2 := Lib.hid (fun (w' : World) (h : Below w3.heap.size w3 w') => sameT_any false m.tr n w' (Fresh w2 w3) P _ _ HS.out (q0.anyT.mono (w' := w') (fun b hb => h.block b hb.2) (fun _ h => h)) (HR.out w' (hw3.trans (h.mono hw3.size))) (fun b hb => Nat.lt_of_lt_of_le hb.2 h.size) (fun b hb => Nat.lt_of_lt_of_le (HP.out b hb) (hw3.trans (h.mono hw3.size)).size))
    dsimp only [ndC] at HS2 a7
    have HSd := Lib.hid (fun (d : Nat) (os : Array Obj) => HS2.out (grow (redrawn (w3.alloc (.cells #[.slice (some ⟨g3, 0, none⟩) 1 cap3] 24)) d) os) ((bal (Below.refl _ w3) (.cells #[.slice (some ⟨g3, 0, none⟩) 1 cap3] 24)).trans ((below_regrown (w3.alloc (.cells #[.slice (some ⟨g3, 0, none⟩) 1 cap3] 24)) d os).mono (by simp))))
    have c1 : w3.cell? ⟨g3, 1, none⟩ = some (.int .i64 (k3 : Int)) := a0
    have c2 : w3.cell? ⟨g3, 2, none⟩ = some (.string (mkS t3)) := a1
    have c3 : w3.cell? ⟨g3, 3, none⟩ = some (.int .u64 (wd x3 0)) := a2
    have c4 : w3.cell? ⟨g3, 4, none⟩ = some (.int .u64 (wd x3 1)) := a3
    have c5 : w3.cell? ⟨g3, 5, none⟩ = some (.int .u64 (wd x3 2)) := a4
    have c6 : w3.cell? ⟨g3, 6, none⟩ = some (.int .u64 (wd x3 3)) := a5
    have c7 : w3.cell? ⟨g3, 7, none⟩ = some (.slice sa3 sn3 sc3) := a6
    have c8 : w3.cell? ⟨g3, 8, none⟩ = some (.int .i64 (m.pos : Int)) := a7
    have e0 : w3.cell? ⟨w.heap.size, 0, none⟩ = some (.int .i64 k) := (cb 0).trans (by simp)
    have e1 : w3.cell? ⟨w.heap.size, 1, none⟩ = some (.string (mkS t)) := (cb 1).trans (by simp)
    have e2 : w3.cell? ⟨w.heap.size, 2, none⟩ = some (.int .u64 (wd x 0)) := (cb 2).trans (by simp)
    have e3 : w3.cell? ⟨w.heap.size, 3, none⟩ = some (.int .u64 (wd x 1)) := (cb 3).trans (by simp)
    have e4 : w3.cell? ⟨w.heap.size, 4, none⟩ = some (.int .u64 (wd x 2)) := (cb 4).trans (by simp)
    have e5 : w3.cell? ⟨w.heap.size, 5, none⟩ = some (.int .u64 (wd x 3)) := (cb 5).trans (by simp)
    have e6 : w3.cell? ⟨w.heap.size, 6, none⟩ = some (.slice sa l.length cap) := (cb 6).trans (by simp)
    have e7 : w3.cell? ⟨w.heap.size, 7, none⟩ = some (.int .i64 p) := (cb 7).trans (by simp)
    clear a0 a1 a2 a3 a4 a5 a6 a7 a8 a9 cb q0 hh ht hrr hG hP3
    dsimp only [List.length]
    repeat (first | go_values | go_skip | go_guarded | go_step | go_upon)
    have hG := grown_cell
    have g5_0 : w.heap.size < w3.heap.size + 1 := by omega
    have g5_1 : g3 < w3.heap.size + 1 := by omega
    have g5_2 : w3.heap.size < w3.heap.size + 1 := by omega
    refine wp_region_qb (by kernel_rfl) (by kernel_rfl) ?_
    repeat (quiet_step (first | (with_reducible exact ans_quiet (HSd.out _ _))))
    refine wpQuiet_nil ?_
    intro w5 hb5
    clear hG
    obtain ⟨hc5, hf5⟩ := bcell hb5
    have hz5 := hb5.size
    try simp at hz5
    have q5_0 : w.heap.size < w5.heap.size := by omega
    have q5_1 : g3 < w5.heap.size := by omega
    have q5_2 : w3.heap.size < w5.heap.size := by omega
    repeat (first | go_values | go_skip | go_guarded | go_step | go_upon)
    go_ret
    exact ⟨rfl, hw3.trans (((bal (Below.refl _ w3) (.cells #[.slice (some ⟨g3, 0, none⟩) 1 cap3] 24)).trans (hb5.mono (by simp))).mono hw3.size)⟩
end Go.Proofs.YteohgaheockepaaDoor
