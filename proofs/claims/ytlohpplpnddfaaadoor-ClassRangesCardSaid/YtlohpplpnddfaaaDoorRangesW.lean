/- The walk of ClassRanges. -/
import Derived.Test.YtlohpplpnddfaaaDoorClsV
import Derived.Test.YtlohpplpnddfaaaDoorEq
import Derived.Test.YtlohpplpnddfaaaDoorAsV
import Derived.OpenShut
namespace Go.Proofs.YtlohpplpnddfaaaDoor
open Go.RowKit Go.Sort

theorem cntTo_rng (lo hi : Nat) (hh : hi ≤ 255) : ∀ n, n ≤ 256 → cntTo (rng lo hi) n = min n (hi + 1) - min n lo := by
  intro n
  induction n with
  | zero => intro _; simp [cntTo]
  | succ n ih =>
    intro hn
    rw [cntTo, ih (by omega), has_rng _ _ _ (by omega) hh]
    by_cases h1 : lo ≤ n <;> by_cases h2 : n ≤ hi <;> simp [h1, h2] <;> omega
theorem cnt_rng (lo hi : Int) (h : 0 ≤ lo) (h0 : lo ≤ hi) (h1 : hi ≤ 255) : cnt (rng lo.toNat hi.toNat) = hi - lo + 1 := by
  unfold cnt
  rw [cntTo_rng _ _ (by omega) 256 (by decide)]
  omega

set_option maxRecDepth 100000 in
set_option maxHeartbeats 1600000 in
theorem ranges_any (lo hi x : Int) (w : World) (hg : Laid w) (wl : (Lit.int .i64 lo).wf = true) (wh : (Lit.int .i64 hi).wf = true) (wx : (Lit.int .u8 x).wf = true) :
    Calls Tryd.prog 3 #[.int .i64 lo, .int .i64 hi, .int .u8 x] w (Ans (.bool true) w) := by
  obtain ⟨x0, x1⟩ := bounds_u8 wx
  clear wl wh wx
  have f7 := guard_cl
  have HG := Lib.hid hg
  clear hg
  by_cases hbad : lo < 0 ∨ 255 < hi ∨ hi < lo
  · have f8 : ∀ w, (Op.equalIn 10000 24 (.agg #[.int .u64 0, .int .u64 0, .int .u64 0, .int .u64 0]) (.agg #[.int .u64 0, .int .u64 0, .int .u64 0, .int .u64 0])).run Tryd.prog w = .ok true w := fun w => by rw [equal_cl4]; rfl
    have HB := Lib.hid hbad
    have hz := wd_zero
    have hd : (decide (lo < 0) = true) ∨ (decide (lo < 0) = false ∧ decide (255 < hi) = true) ∨ (decide (lo < 0) = false ∧ decide (255 < hi) = false ∧ decide (hi < lo) = true) := by
      simp only [decide_eq_true_eq, decide_eq_false_iff_not]; omega
    clear hbad
    rcases hd with d1 | ⟨d1, d2⟩ | ⟨d1, d2, d3⟩
    all_goals
      go_enter Tryd.func3, Tryd.ntmps3
      repeat (first | go_values | go_skip | go_guarded | go_step | go_upon)
      refine (range_no _ _ _ HB.out).mono ?_
      rintro e w1 ⟨rfl, hb1⟩
      obtain ⟨hc1, hf1⟩ := bcell hb1
      have hz1 := hb1.size
      try simp at hz1
      dsimp only
      repeat (first | go_values | go_skip | go_guarded | go_step | go_upon)
      refine (code_E 1 _ (HG.out.below (B := w.heap.size) (by repeat (first | exact Below.refl _ _ | assumption | refine bal ?_ _ | refine bdr ?_ | refine bdrn ?_ _ | (refine bset ?_ (by first | exact Nat.le_refl _ | (simp; done) | (simp; omega) | omega) _) | refine bstep ?_ (by assumption))) HG.out.pos)).mono ?_
      rintro e w2 ⟨rfl, hb2⟩
      obtain ⟨hc2, hf2⟩ := bcell hb2
      dsimp only
      repeat (first | go_values | go_skip | go_guarded | go_step | go_upon)
      go_ret
      exact ⟨rfl, (by repeat (first | exact Below.refl _ _ | assumption | refine bal ?_ _ | refine bdr ?_ | refine bdrn ?_ _ | (refine bset ?_ (by first | exact Nat.le_refl _ | (simp; done) | (simp; omega) | omega) _) | refine bstep ?_ (by assumption)))⟩
  · have l0 : 0 ≤ lo := by omega
    have l1 : lo ≤ hi := by omega
    have l2 : hi ≤ 255 := by omega
    have d1 : decide (lo < 0) = false := by simpa using l0
    have d2 : decide (255 < hi) = false := by simpa using l2
    have d3 : decide (hi < lo) = false := by simpa using l1
    have fc : (cnt (rng lo.toNat hi.toNat) == hi - lo + 1) = true := by simpa using cnt_rng lo hi l0 l1 l2
    have fh : Has (rng lo.toNat hi.toNat) x.toNat = (decide (lo ≤ x) && decide (x ≤ hi)) := by
      rw [has_rng _ _ _ (by omega) (by omega)]
      congr 1 <;> (apply decide_eq_decide.2; omega)
    clear hbad
    rcases Bool.eq_false_or_eq_true (decide (lo ≤ x)) with b1 | b1
    all_goals
      go_enter Tryd.func3, Tryd.ntmps3
      repeat (first | go_values | go_skip | go_guarded | go_step | go_upon)
      refine (range_yes _ _ _ l0 l1 l2).mono ?_
      rintro e w1 ⟨rfl, hb1⟩
      obtain ⟨hc1, hf1⟩ := bcell hb1
      have hz1 := hb1.size
      try simp at hz1
      dsimp only
      repeat (first | (go_at_call 22; refine (has_any _ _ _ x0 (by omega)).mono ?_; rintro e w1 ⟨rfl, hb1⟩; obtain ⟨hc1, hf1, hz1⟩ := bcell3 hb1; try dsimp only) | (go_at_call 23; refine (count_any _ _).mono ?_; rintro e w1 ⟨rfl, hb1⟩; obtain ⟨hc1, hf1, hz1⟩ := bcell3 hb1; try dsimp only) | go_values | go_skip | go_guarded | go_step | go_upon)
      go_ret
      exact ⟨rfl, (by repeat (first | exact Below.refl _ _ | assumption | refine bal ?_ _ | refine bdr ?_ | refine bdrn ?_ _ | (refine bset ?_ (by first | exact Nat.le_refl _ | (simp; done) | (simp; omega) | omega) _) | refine bstep ?_ (by assumption)))⟩
end Go.Proofs.YtlohpplpnddfaaaDoor
