/- The walk of the laws' small case. -/
import Derived.Test.YtlohpplpnddfaaaDoorClsV
namespace Go.Proofs.YtlohpplpnddfaaaDoor
open Go.RowKit Go.Sort

theorem has_98 : Has (rng 97 122) 98 = true := by decide +kernel
theorem cnt_26 : cnt (rng 97 122) = 26 := by decide +kernel
set_option maxRecDepth 100000 in
set_option maxHeartbeats 800000 in
theorem small_any (w : World) : Calls Tryd.prog 24 #[] w (Ans (.bool true) w) := by
  have f1 := has_98
  have f2 := cnt_26
  go_enter Tryd.func24, Tryd.ntmps24
  go_wp2_with (first | (go_at_call 20; refine (range_yes _ _ _ (by decide) (by decide) (by decide)).mono ?_; rintro e w1 ⟨rfl, hb1⟩; obtain ⟨hc1, hf1, hz1⟩ := bcell3 hb1; try dsimp only) | (go_at_call 22; refine (has_any _ _ _ (by decide) (by decide)).mono ?_; rintro e w1 ⟨rfl, hb1⟩; obtain ⟨hc1, hf1, hz1⟩ := bcell3 hb1; try dsimp only) | (go_at_call 23; refine (count_any _ _).mono ?_; rintro e w1 ⟨rfl, hb1⟩; obtain ⟨hc1, hf1, hz1⟩ := bcell3 hb1; try dsimp only))
  go_ret
  exact ⟨rfl, (by repeat (first | exact Below.refl _ _ | assumption | refine bal ?_ _ | refine bdr ?_ | refine bdrn ?_ _ | (refine bset ?_ (by first | exact Nat.le_refl _ | (simp; done) | (simp; omega) | omega) _) | refine bstep ?_ (by assumption)))⟩
end Go.Proofs.YtlohpplpnddfaaaDoor
