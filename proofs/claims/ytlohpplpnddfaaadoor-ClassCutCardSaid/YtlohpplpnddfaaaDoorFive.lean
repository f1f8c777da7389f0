/- The walk of the document's five. -/
import Derived.Test.YtlohpplpnddfaaaDoorClsV
import Derived.Test.YtlohpplpnddfaaaDoorSgnP
namespace Go.Proofs.YtlohpplpnddfaaaDoor
open Go.RowKit Go.Sort

theorem five_no {b : Nat} (h : fiveB b = false) : ((b : Int) == 91) = false ∧ ((b : Int) == 93) = false ∧ ((b : Int) == 92) = false ∧ ((b : Int) == 45) = false ∧ ((b : Int) == 94) = false := by
  simp [fiveB] at h
  obtain ⟨⟨⟨⟨h1, h2⟩, h3⟩, h4⟩, h5⟩ := h
  refine ⟨?_, ?_, ?_, ?_, ?_⟩ <;> simp <;> omega
set_option maxRecDepth 100000 in
set_option maxHeartbeats 800000 in
theorem five_any (b : Nat) (r : Bool) (w : World) (h : fiveB b = r) : Calls Tryd.prog 81 #[.int .i64 b] w (Ans (.bool r) w) := by
  cases r
  · obtain ⟨h1, h2, h3, h4, h5⟩ := five_no h
    clear h
    go_enter Tryd.func81, Tryd.ntmps81
    repeat (first | go_values | go_skip | go_guarded | go_step | go_upon)
    go_ret
    exact ⟨rfl, (by repeat (first | exact Below.refl _ _ | assumption | refine bal ?_ _ | refine bdr ?_ | refine bdrn ?_ _ | (refine bset ?_ (by first | exact Nat.le_refl _ | (simp; done) | (simp; omega) | omega) _) | refine bstep ?_ (by assumption)))⟩
  · rcases five_list h with rfl | rfl | rfl | rfl | rfl
    all_goals
      clear h
      go_enter Tryd.func81, Tryd.ntmps81
      repeat (first | go_values | go_skip | go_guarded | go_step | go_upon)
      go_ret
      exact ⟨rfl, (by repeat (first | exact Below.refl _ _ | assumption | refine bal ?_ _ | refine bdr ?_ | refine bdrn ?_ _ | (refine bset ?_ (by first | exact Nat.le_refl _ | (simp; done) | (simp; omega) | omega) _) | refine bstep ?_ (by assumption)))⟩
end Go.Proofs.YtlohpplpnddfaaaDoor
