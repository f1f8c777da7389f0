/- The walk of LexBack. -/
import Derived.Test.YtlohpplpnddfaaaDoorQuoW
import Derived.Test.YtlohpplpnddfaaaDoorQuoL
import Derived.Test.YtlohpplpnddfaaaDoorLexF
import Derived.Test.YtlohpplpnddfaaaDoorTokE
namespace Go.Proofs.YtlohpplpnddfaaaDoor
open Go.RowKit Go.Sort

theorem quoted_len (p : List UInt8) : (quoted p).length ≤ 4 * p.length + 2 := by
  have := quoTo_len p p.length
  rw [quoted, List.length_append]
  simp
  omega
set_option maxRecDepth 100000 in
set_option maxHeartbeats 3200000 in
theorem lback_any (P : ByteArray) (w : World) (hg : Laid w) (_ : P.size ≤ 140737488351232) (hp : P.size ≤ 1048576) : Calls Tryd.prog 13 #[.string P] w (Ans (.bool true) w) := by
  have hlen := bl_length P
  have hq := quoted_toks (bl P)
  have hql := quoted_len (bl P)
  have HL1 := Lib.hid (fun (W : World) (h : Below w.heap.size w W) => hg.below h hg.pos)
  generalize hZ : (⟨(quoted (bl P)).toArray⟩ : ByteArray) = Z
  have hbz : bl Z = quoted (bl P) := by rw [← hZ]; simp [bl]
  have hzl := bl_length Z
  have Q1 := Lib.hid (fun w => hZ ▸ quote_any P w hp)
  rw [hlen] at hq
  rw [← hbz] at hq hql
  have f1 := guard_tok
  have f2 := equal_tok
  clear hg
  by_cases h255 : P.size ≤ 255
  · rw [if_pos h255] at hq
    have HT := Lib.hid (lexed_toks (by omega) hq)
    have d1 : decide ((255 : Int) < P.size) = false := by simp; omega
    have eP : mkS (bl P) = P := by
      apply ByteArray.ext
      simp [mkS, bl]
    rw [hzl] at HT
    clear hq hql hzl hbz hlen hZ
    go_enter Tryd.func13, Tryd.ntmps13
    repeat (first | go_values | go_skip | go_guarded | go_step | go_upon)
    refine (Q1.out _).mono ?_
    rintro e w1 ⟨rfl, hb1⟩
    obtain ⟨hc1, hf1⟩ := bcell hb1
    have hz1 := hb1.size
    try simp at hz1
    dsimp only
    repeat (first | go_values | go_skip | go_guarded | go_step | go_upon)
    refine (lexed_ok Z _ (HL1.out _ (by repeat (first | exact Below.refl _ _ | assumption | refine bal ?_ _ | refine bdr ?_ | refine bdrn ?_ _ | (refine bset ?_ (by first | exact Nat.le_refl _ | (simp; done) | (simp; omega) | omega) _) | refine bstep ?_ (by assumption)))) HT.out).mono ?_
    rintro e w2 ⟨v, rfl, hown, hb2⟩
    obtain ⟨g, cap, hv, _⟩ := hown.form (by simp)
    subst hv
    have c0 : w2.cell? ⟨g, 0, none⟩ = some (.int .i64 3) := by rw [hown.cellAt 0 (by simp)]; rfl
    have c1 : w2.cell? ⟨g, 1, none⟩ = some (.string P) := by rw [hown.cellAt 1 (by simp)]; simp [tokCells, tokC, eP]
    have c2 : w2.cell? ⟨g, 2, none⟩ = some (.int .u64 0) := by rw [hown.cellAt 2 (by simp)]; simp [tokCells, tokC, wd_zero]
    have c3 : w2.cell? ⟨g, 3, none⟩ = some (.int .u64 0) := by rw [hown.cellAt 3 (by simp)]; simp [tokCells, tokC, wd_zero]
    have c4 : w2.cell? ⟨g, 4, none⟩ = some (.int .u64 0) := by rw [hown.cellAt 4 (by simp)]; simp [tokCells, tokC, wd_zero]
    have c5 : w2.cell? ⟨g, 5, none⟩ = some (.int .u64 0) := by rw [hown.cellAt 5 (by simp)]; simp [tokCells, tokC, wd_zero]
    have c6 : w2.cell? ⟨g, 6, none⟩ = some (.int .i64 0) := by rw [hown.cellAt 6 (by simp)]; rfl
    have c7 : w2.cell? ⟨g, 7, none⟩ = some (.int .i64 6) := by rw [hown.cellAt 7 (by simp)]; rfl
    have c8 : w2.cell? ⟨g, 8, none⟩ = some (.string ⟨#[]⟩) := by rw [hown.cellAt 8 (by simp)]; rfl
    have c9 : w2.cell? ⟨g, 9, none⟩ = some (.int .u64 0) := by rw [hown.cellAt 9 (by simp)]; simp [tokCells, tokC, wd_zero]
    have c10 : w2.cell? ⟨g, 10, none⟩ = some (.int .u64 0) := by rw [hown.cellAt 10 (by simp)]; simp [tokCells, tokC, wd_zero]
    have c11 : w2.cell? ⟨g, 11, none⟩ = some (.int .u64 0) := by rw [hown.cellAt 11 (by simp)]; simp [tokCells, tokC, wd_zero]
    have c12 : w2.cell? ⟨g, 12, none⟩ = some (.int .u64 0) := by rw [hown.cellAt 12 (by simp)]; simp [tokCells, tokC, wd_zero]
    have c13 : w2.cell? ⟨g, 13, none⟩ = some (.int .i64 (Z.size : Int)) := by rw [hown.cellAt 13 (by simp)]; rfl
    clear hown
    dsimp only [List.length]
    repeat (first | go_values | go_skip | go_guarded | go_step | go_upon)
    go_ret
    exact ⟨rfl, (by repeat (first | exact Below.refl _ _ | assumption | refine bal ?_ _ | refine bdr ?_ | refine bdrn ?_ _ | (refine bset ?_ (by first | exact Nat.le_refl _ | (simp; done) | (simp; omega) | omega) _) | refine bstep ?_ (by assumption)))⟩
  · rw [if_neg h255] at hq
    have d1 : decide ((255 : Int) < P.size) = true := by simp; omega
    have hz2 : Z.size ≤ 140737488355328 := by omega
    by_cases h8 : 8192 < Z.size
    · have HT := Lib.hid (lexed_big (s := bl Z) (by omega))
      have d2 : decide ((8192 : Int) < Z.size) = true := by simp; omega
      clear hq hql hzl hbz hlen hZ
      go_enter Tryd.func13, Tryd.ntmps13
      repeat (first | go_values | go_skip | go_guarded | go_step | go_upon)
      refine (Q1.out _).mono ?_
      rintro e w1 ⟨rfl, hb1⟩
      obtain ⟨hc1, hf1⟩ := bcell hb1
      have hz1 := hb1.size
      try simp at hz1
      dsimp only
      repeat (first | go_values | go_skip | go_guarded | go_step | go_upon)
      refine (lexed_no Z _ (HL1.out _ (by repeat (first | exact Below.refl _ _ | assumption | refine bal ?_ _ | refine bdr ?_ | refine bdrn ?_ _ | (refine bset ?_ (by first | exact Nat.le_refl _ | (simp; done) | (simp; omega) | omega) _) | refine bstep ?_ (by assumption)))) hz2 HT.out).mono ?_
      rintro e w2 ⟨⟨p, rfl, hp, hl⟩, hb2⟩
      have HF := Lib.hid hp
      clear hp
      dsimp only
      have HW := Lib.hid (fun (W : World) (h : Below w2.heap.size w2 W) => HF.out.below h)
      repeat (first | go_values | go_skip | go_guarded | go_step | go_upon)
      refine (code_I (HL1.out _ (by repeat (first | exact Below.refl _ _ | assumption | refine bal ?_ _ | refine bdr ?_ | refine bdrn ?_ _ | (refine bset ?_ (by first | exact Nat.le_refl _ | (simp; done) | (simp; omega) | omega) _) | refine bstep ?_ (by assumption)))) (HW.out _ (by repeat (first | exact Below.refl _ _ | assumption | refine bal ?_ _ | refine bdr ?_ | refine bdrn ?_ _ | (refine bset ?_ (by first | exact Nat.le_refl _ | (simp; done) | (simp; omega) | omega) _) | refine bstep ?_ (by assumption)))) rfl).mono ?_
      rintro e w4 ⟨rfl, hb4⟩
      obtain ⟨hc4, hf4⟩ := bcell hb4
      have hz4 := hb4.size
      try simp at hz4
      dsimp only
      repeat (first | go_values | go_skip | go_guarded | go_step | go_upon)
      refine (at_I (HL1.out _ (by repeat (first | exact Below.refl _ _ | assumption | refine bal ?_ _ | refine bdr ?_ | refine bdrn ?_ _ | (refine bset ?_ (by first | exact Nat.le_refl _ | (simp; done) | (simp; omega) | omega) _) | refine bstep ?_ (by assumption)))) (HW.out _ (by repeat (first | exact Below.refl _ _ | assumption | refine bal ?_ _ | refine bdr ?_ | refine bdrn ?_ _ | (refine bset ?_ (by first | exact Nat.le_refl _ | (simp; done) | (simp; omega) | omega) _) | refine bstep ?_ (by assumption)))) rfl).mono ?_
      rintro e w5 ⟨rfl, hb5⟩
      obtain ⟨hc5, hf5⟩ := bcell hb5
      have hz5 := hb5.size
      try simp at hz5
      dsimp only
      repeat (first | go_values | go_skip | go_guarded | go_step | go_upon)
      go_ret
      exact ⟨rfl, (by repeat (first | exact Below.refl _ _ | assumption | refine bal ?_ _ | refine bdr ?_ | refine bdrn ?_ _ | (refine bset ?_ (by first | exact Nat.le_refl _ | (simp; done) | (simp; omega) | omega) _) | refine bstep ?_ (by assumption)))⟩
    · have HT := Lib.hid (lexed_bad (by omega) hq)
      clear hq hql hzl hbz hlen hZ
      go_enter Tryd.func13, Tryd.ntmps13
      repeat (first | go_values | go_skip | go_guarded | go_step | go_upon)
      refine (Q1.out _).mono ?_
      rintro e w1 ⟨rfl, hb1⟩
      obtain ⟨hc1, hf1⟩ := bcell hb1
      have hz1 := hb1.size
      try simp at hz1
      dsimp only
      repeat (first | go_values | go_skip | go_guarded | go_step | go_upon)
      refine (lexed_no Z _ (HL1.out _ (by repeat (first | exact Below.refl _ _ | assumption | refine bal ?_ _ | refine bdr ?_ | refine bdrn ?_ _ | (refine bset ?_ (by first | exact Nat.le_refl _ | (simp; done) | (simp; omega) | omega) _) | refine bstep ?_ (by assumption)))) hz2 HT.out).mono ?_
      rintro e w2 ⟨⟨p, rfl, hp, hl⟩, hb2⟩
      have HF := Lib.hid hp
      clear hp
      dsimp only
      have HW := Lib.hid (fun (W : World) (h : Below w2.heap.size w2 W) => HF.out.below h)
      repeat (first | go_values | go_skip | go_guarded | go_step | go_upon)
      refine (code_I (HL1.out _ (by repeat (first | exact Below.refl _ _ | assumption | refine bal ?_ _ | refine bdr ?_ | refine bdrn ?_ _ | (refine bset ?_ (by first | exact Nat.le_refl _ | (simp; done) | (simp; omega) | omega) _) | refine bstep ?_ (by assumption)))) (HW.out _ (by repeat (first | exact Below.refl _ _ | assumption | refine bal ?_ _ | refine bdr ?_ | refine bdrn ?_ _ | (refine bset ?_ (by first | exact Nat.le_refl _ | (simp; done) | (simp; omega) | omega) _) | refine bstep ?_ (by assumption)))) rfl).mono ?_
      rintro e w4 ⟨rfl, hb4⟩
      obtain ⟨hc4, hf4⟩ := bcell hb4
      have hz4 := hb4.size
      try simp at hz4
      dsimp only
      repeat (first | go_values | go_skip | go_guarded | go_step | go_upon)
      refine (at_I (HL1.out _ (by repeat (first | exact Below.refl _ _ | assumption | refine bal ?_ _ | refine bdr ?_ | refine bdrn ?_ _ | (refine bset ?_ (by first | exact Nat.le_refl _ | (simp; done) | (simp; omega) | omega) _) | refine bstep ?_ (by assumption)))) (HW.out _ (by repeat (first | exact Below.refl _ _ | assumption | refine bal ?_ _ | refine bdr ?_ | refine bdrn ?_ _ | (refine bset ?_ (by first | exact Nat.le_refl _ | (simp; done) | (simp; omega) | omega) _) | refine bstep ?_ (by assumption)))) rfl).mono ?_
      rintro e w5 ⟨rfl, hb5⟩
      obtain ⟨hc5, hf5⟩ := bcell hb5
      have hz5 := hb5.size
      try simp at hz5
      dsimp only
      repeat (first | go_values | go_skip | go_guarded | go_step | go_upon)
      go_ret
      exact ⟨rfl, (by repeat (first | exact Below.refl _ _ | assumption | refine bal ?_ _ | refine bdr ?_ | refine bdrn ?_ _ | (refine bset ?_ (by first | exact Nat.le_refl _ | (simp; done) | (simp; omega) | omega) _) | refine bstep ?_ (by assumption)))⟩
end Go.Proofs.YtlohpplpnddfaaaDoor
