/- Walks of package class: ranges, counts. -/
import Derived.Test.YtlohpplpnddfaaaDoorClsW
import Derived.Test.YtlohpplpnddfaaaDoorPop
namespace Go.Proofs.YtlohpplpnddfaaaDoor
open Go.RowKit Go.Sort

set_option maxRecDepth 100000 in
set_option maxHeartbeats 800000 in
theorem range_yes (lo hi : Int) (w : World) (h : 0 ≤ lo) (h0 : lo ≤ hi) (h1 : hi ≤ 255) :
    Calls Tryd.prog 20 #[.int .i64 lo, .int .i64 hi] w (Ans (.tuple #[.agg #[.int .u64 (wd (rng lo.toNat hi.toNat) 0), .int .u64 (wd (rng lo.toNat hi.toNat) 1), .int .u64 (wd (rng lo.toNat hi.toNat) 2), .int .u64 (wd (rng lo.toNat hi.toNat) 3)], .nilIface]) w) := by
  have d1 : decide (lo < 0) = false := by simpa using h
  have d2 : decide (255 < hi) = false := by simpa using h1
  have d3 : decide (hi < lo) = false := by simpa using h0
  go_enter Tryd.func20, Tryd.ntmps20
  go_wp2_with (go_at_call 49; refine (span_call _ _ _ h h0 h1).mono ?_; rintro e w1 ⟨rfl, hb1⟩; obtain ⟨hc1, hf1⟩ := bcell hb1)
  exact bodyPost_ret (v := .tuple #[.agg #[.int .u64 (wd (rng lo.toNat hi.toNat) 0), .int .u64 (wd (rng lo.toNat hi.toNat) 1), .int .u64 (wd (rng lo.toNat hi.toNat) 2), .int .u64 (wd (rng lo.toNat hi.toNat) 3)], .nilIface]) (by simp [results, Tryd.results20, go_sem, hc1]) rfl ⟨rfl, (by repeat (first | exact Below.refl _ _ | assumption | refine bal ?_ _ | refine bdr ?_ | refine bdrn ?_ _ | (refine bset ?_ (by first | exact Nat.le_refl _ | (simp; done) | (simp; omega) | omega) _) | refine bstep ?_ (by assumption)))⟩

set_option maxRecDepth 100000 in
set_option maxHeartbeats 800000 in
theorem range_no (lo hi : Int) (w : World) (h : lo < 0 ∨ 255 < hi ∨ hi < lo) :
    Calls Tryd.prog 20 #[.int .i64 lo, .int .i64 hi] w (Ans (.tuple #[.agg #[.int .u64 (wd (0#256) 0), .int .u64 (wd (0#256) 1), .int .u64 (wd (0#256) 2), .int .u64 (wd (0#256) 3)], .iface 29 (.int .i64 1)]) w) := by
  have key : ((decide (lo < 0) || decide (255 < hi)) || decide (hi < lo)) = true := by simp; omega
  have z := wd_zero
  go_enter Tryd.func20, Tryd.ntmps20
  by_cases c1 : lo < 0
  · have d1 : decide (lo < 0) = true := by simpa using c1
    clear h
    go_wp2
    exact bodyPost_ret (v := .tuple #[.agg #[.int .u64 (wd (0#256) 0), .int .u64 (wd (0#256) 1), .int .u64 (wd (0#256) 2), .int .u64 (wd (0#256) 3)], .iface 29 (.int .i64 1)]) (by simp [results, Tryd.results20, go_sem, z]) rfl ⟨rfl, (by repeat (first | exact Below.refl _ _ | assumption | refine bal ?_ _ | refine bdr ?_ | refine bdrn ?_ _ | (refine bset ?_ (by first | exact Nat.le_refl _ | (simp; done) | (simp; omega) | omega) _) | refine bstep ?_ (by assumption)))⟩
  · have d1 : decide (lo < 0) = false := by simpa using c1
    by_cases c2 : 255 < hi
    · have d2 : decide (255 < hi) = true := by simpa using c2
      clear h
      go_wp2
      exact bodyPost_ret (v := .tuple #[.agg #[.int .u64 (wd (0#256) 0), .int .u64 (wd (0#256) 1), .int .u64 (wd (0#256) 2), .int .u64 (wd (0#256) 3)], .iface 29 (.int .i64 1)]) (by simp [results, Tryd.results20, go_sem, z]) rfl ⟨rfl, (by repeat (first | exact Below.refl _ _ | assumption | refine bal ?_ _ | refine bdr ?_ | refine bdrn ?_ _ | (refine bset ?_ (by first | exact Nat.le_refl _ | (simp; done) | (simp; omega) | omega) _) | refine bstep ?_ (by assumption)))⟩
    · have d2 : decide (255 < hi) = false := by simpa using c2
      have d3 : decide (hi < lo) = true := by simp; omega
      clear h
      go_wp2
      exact bodyPost_ret (v := .tuple #[.agg #[.int .u64 (wd (0#256) 0), .int .u64 (wd (0#256) 1), .int .u64 (wd (0#256) 2), .int .u64 (wd (0#256) 3)], .iface 29 (.int .i64 1)]) (by simp [results, Tryd.results20, go_sem, z]) rfl ⟨rfl, (by repeat (first | exact Below.refl _ _ | assumption | refine bal ?_ _ | refine bdr ?_ | refine bdrn ?_ _ | (refine bset ?_ (by first | exact Nat.le_refl _ | (simp; done) | (simp; omega) | omega) _) | refine bstep ?_ (by assumption)))⟩

theorem ones_call (c : BitVec 256) (i : Nat) (w : World) : Calls Tryd.prog 51 #[.int .u64 (wd c i)] w (Ans (.int .i64 (popw c i : Nat)) w) := by
  rw [← ones_wd]; exact ones_any _ w (wd_nonneg _ _)

set_option maxRecDepth 100000 in
set_option maxHeartbeats 1600000 in
theorem count_any (c : BitVec 256) (w : World) :
    Calls Tryd.prog 23 #[.agg #[.int .u64 (wd c 0), .int .u64 (wd c 1), .int .u64 (wd c 2), .int .u64 (wd c 3)]] w (Ans (.int .i64 (cnt c)) w) := by
  have i0 : ∀ w, (Instr.index 24 (.agg #[.int .u64 (wd c 0), .int .u64 (wd c 1), .int .u64 (wd c 2), .int .u64 (wd c 3)]) (.int .i64 0)).run Tryd.prog w = .ok (.int .u64 (wd c 0)) w := fun _ => by kernel_rfl
  have i1 : ∀ w, (Instr.index 24 (.agg #[.int .u64 (wd c 0), .int .u64 (wd c 1), .int .u64 (wd c 2), .int .u64 (wd c 3)]) (.int .i64 1)).run Tryd.prog w = .ok (.int .u64 (wd c 1)) w := fun _ => by kernel_rfl
  have i2 : ∀ w, (Instr.index 24 (.agg #[.int .u64 (wd c 0), .int .u64 (wd c 1), .int .u64 (wd c 2), .int .u64 (wd c 3)]) (.int .i64 2)).run Tryd.prog w = .ok (.int .u64 (wd c 2)) w := fun _ => by kernel_rfl
  have i3 : ∀ w, (Instr.index 24 (.agg #[.int .u64 (wd c 0), .int .u64 (wd c 1), .int .u64 (wd c 2), .int .u64 (wd c 3)]) (.int .i64 3)).run Tryd.prog w = .ok (.int .u64 (wd c 3)) w := fun _ => by kernel_rfl
  have p0 := popw_le c 0
  have p1 := popw_le c 1
  have p2 := popw_le c 2
  have p3 := popw_le c 3
  go_enter Tryd.func23, Tryd.ntmps23
  go_wp2
  refine wp_loop_rounds 5 ?_
  rw [rounds_succ]
  go_wp2_with (go_at_call 51; refine (ones_call _ 0 _).mono ?_; rintro e w1 ⟨rfl, hb1⟩; obtain ⟨hc1, hf1⟩ := bcell hb1)
  rw [rounds_succ]
  go_wp2_with (go_at_call 51; refine (ones_call _ 1 _).mono ?_; rintro e w2 ⟨rfl, hb2⟩; obtain ⟨hc2, hf2⟩ := bcell hb2)
  rw [rounds_succ]
  go_wp2_with (go_at_call 51; refine (ones_call _ 2 _).mono ?_; rintro e w3 ⟨rfl, hb3⟩; obtain ⟨hc3, hf3⟩ := bcell hb3)
  rw [rounds_succ]
  go_wp2_with (go_at_call 51; refine (ones_call _ 3 _).mono ?_; rintro e w4 ⟨rfl, hb4⟩; obtain ⟨hc4, hf4⟩ := bcell hb4)
  rw [rounds_succ]
  go_wp2
  go_ret
  exact ⟨ret_int (by rw [cnt_popw]; omega), (by repeat (first | exact Below.refl _ _ | assumption | refine bal ?_ _ | refine bdr ?_ | refine bdrn ?_ _ | (refine bset ?_ (by first | exact Nat.le_refl _ | (simp; done) | (simp; omega) | omega) _) | refine bstep ?_ (by assumption)))⟩
end Go.Proofs.YtlohpplpnddfaaaDoor
