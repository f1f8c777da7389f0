/- The walk of the laws' same. -/
import Derived.Test.YtfnbdpigpeonmaaRefRW
namespace Go.Proofs.Ytfnbdpigpeonmaa
open Go.RowKit Go.Sort

set_option maxRecDepth 100000 in
set_option maxHeartbeats 1600000 in
theorem same_any (l : List (Nat × Nat)) (n B1 B2 : Nat) (v1 v2 : Value) (w : World) (hlen : n ≤ 257) (hn : l.length = n) (h1 : w.ownsRow B1 37 2 v1 n (pairs l)) (h2 : w.ownsRow B2 37 2 v2 n (pairs l)) :
    Calls Try.prog 18 #[v1, v2] w (Ans (.bool true) w) := by
  have f8 := guard_pair
  have f9 : ∀ w (p : Nat × Nat), (Op.equalIn 10000 37 (.agg #[.int .i64 (p.1 : Int), .int .i64 (p.2 : Int)]) (.agg #[.int .i64 (p.1 : Int), .int .i64 (p.2 : Int)])).run Try.prog w = .ok true w := fun w p => by rw [equal_pair]; simp
  rcases owns_form2 h1 with ⟨hn1, hv1⟩ | ⟨g1, cap1, hv1⟩ <;> rcases owns_form2 h2 with ⟨hn2, hv2⟩ | ⟨g2, cap2, hv2⟩
  all_goals
    subst hv1
    subst hv2
  · clear hn1 hn2 hn h1 h2
    go_enter Try.func18, Try.ntmps18
    repeat (first | go_values | go_skip | go_guarded | go_step | go_upon)
    refine wp_loop_rounds 1 ?_
    rw [rounds_succ]
    repeat (first | go_values | go_skip | go_guarded | go_step | go_upon)
    go_ret
    exact ⟨rfl, (by repeat (first | exact Below.refl _ _ | assumption | refine bal ?_ _ | refine bdr ?_ | refine bdrn ?_ _ | (refine bset ?_ (by first | exact Nat.le_refl _ | (simp; done) | (simp; omega) | omega) _) | refine bstep ?_ (by assumption)))⟩
  · subst hn1
    clear hn h1 h2
    go_enter Try.func18, Try.ntmps18
    repeat (first | go_values | go_skip | go_guarded | go_step | go_upon)
    refine wp_loop_rounds 1 ?_
    rw [rounds_succ]
    repeat (first | go_values | go_skip | go_guarded | go_step | go_upon)
    go_ret
    exact ⟨rfl, (by repeat (first | exact Below.refl _ _ | assumption | refine bal ?_ _ | refine bdr ?_ | refine bdrn ?_ _ | (refine bset ?_ (by first | exact Nat.le_refl _ | (simp; done) | (simp; omega) | omega) _) | refine bstep ?_ (by assumption)))⟩
  · subst hn2
    clear hn h1 h2
    go_enter Try.func18, Try.ntmps18
    repeat (first | go_values | go_skip | go_guarded | go_step | go_upon)
    refine wp_loop_rounds 1 ?_
    rw [rounds_succ]
    repeat (first | go_values | go_skip | go_guarded | go_step | go_upon)
    go_ret
    exact ⟨rfl, (by repeat (first | exact Below.refl _ _ | assumption | refine bal ?_ _ | refine bdr ?_ | refine bdrn ?_ _ | (refine bset ?_ (by first | exact Nat.le_refl _ | (simp; done) | (simp; omega) | omega) _) | refine bstep ?_ (by assumption)))⟩
  · go_enter Try.func18, Try.ntmps18
    repeat (first | go_values | go_skip | go_guarded | go_step | go_upon)
    go_loopw [5] (fun t wr => ∃ k : Nat, k ≤ n ∧ t = .int .i64 k ∧ Below w.heap.size w wr) (fun t _ => n - (intOf t).toNat)
    case atStart => exact ⟨0, Nat.zero_le _, rfl, Below.refl _ _⟩
    case round =>
      obtain ⟨k, hk, rfl, hbr⟩ := hrel
      have o1 := owns_below h1 hbr
      have o2 := owns_below h2 hbr
      by_cases hlt : k < n
      · obtain ⟨p, hp⟩ : ∃ p, l[k]? = some p := ⟨l[k], List.getElem?_eq_getElem (by omega)⟩
        have hg := pairs_get l k p hp
        have c0 : wr.cell? ⟨g1, k * 2, none⟩ = some (.int .i64 (p.1 : Int)) := by rw [o1.cellAt _ (by omega)]; exact hg.1
        have c1 : wr.cell? ⟨g1, k * 2 + 1, none⟩ = some (.int .i64 (p.2 : Int)) := by rw [o1.cellAt _ (by omega)]; exact hg.2
        have d0 : wr.cell? ⟨g2, k * 2, none⟩ = some (.int .i64 (p.1 : Int)) := by rw [o2.cellAt _ (by omega)]; exact hg.1
        have d1 : wr.cell? ⟨g2, k * 2 + 1, none⟩ = some (.int .i64 (p.2 : Int)) := by rw [o2.cellAt _ (by omega)]; exact hg.2
        clear hg hp h1 h2 o1 o2 hn
        repeat (first | go_values | go_skip | go_guarded | go_step | go_upon)
        go_region
        repeat (first | go_values | go_skip | go_guarded | go_step | go_upon)
        exact ⟨⟨k + 1, by omega, by go_num, (by repeat (first | exact Below.refl _ _ | assumption | refine bal ?_ _ | refine bdr ?_ | refine bdrn ?_ _ | (refine bset ?_ (by first | exact Nat.le_refl _ | (simp; done) | (simp; omega) | omega) _) | refine bstep ?_ (by assumption)))⟩, by simp [intOf]; omega⟩
      · clear h1 h2 o1 o2
        repeat (first | go_values | go_skip | go_guarded | go_step | go_upon)
        go_ret
        exact ⟨rfl, (by repeat (first | exact Below.refl _ _ | assumption | refine bal ?_ _ | refine bdr ?_ | refine bdrn ?_ _ | (refine bset ?_ (by first | exact Nat.le_refl _ | (simp; done) | (simp; omega) | omega) _) | refine bstep ?_ (by assumption)))⟩
end Go.Proofs.Ytfnbdpigpeonmaa
