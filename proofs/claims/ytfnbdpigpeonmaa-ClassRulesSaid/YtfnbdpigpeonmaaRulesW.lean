/- The walk of ClassRules. -/
import Derived.Test.YtfnbdpigpeonmaaSmall
import Derived.Test.YtfnbdpigpeonmaaEq
import Derived.OpenShut
namespace Go.Proofs.Ytfnbdpigpeonmaa
open Go.RowKit Go.Sort

theorem not_and (c d : BitVec 256) : ~~~(c &&& d) = ~~~c ||| ~~~d := by
  apply cl_ext; intro k hk; rw [has_not _ _ hk, has_or, has_not _ _ hk, has_not _ _ hk, has_and]; cases Has c k <;> cases Has d k <;> rfl
theorem not_or (c d : BitVec 256) : ~~~(c ||| d) = ~~~c &&& ~~~d := by
  apply cl_ext; intro k hk; rw [has_not _ _ hk, has_and, has_not _ _ hk, has_not _ _ hk, has_or]; cases Has c k <;> cases Has d k <;> rfl
theorem not_not' (c : BitVec 256) : ~~~(~~~c) = c := by
  apply cl_ext; intro k hk; rw [has_not _ _ hk, has_not _ _ hk]; cases Has c k <;> rfl

set_option maxRecDepth 100000 in
set_option maxHeartbeats 1600000 in
theorem rules_any (c d : BitVec 256) (x : Int) (w : World) (hx : (Lit.int .u8 x).wf = true) : Calls Try.prog 4 #[.agg #[.int .u64 (wd c 0), .int .u64 (wd c 1), .int .u64 (wd c 2), .int .u64 (wd c 3)], .agg #[.int .u64 (wd d 0), .int .u64 (wd d 1), .int .u64 (wd d 2), .int .u64 (wd d 3)], .int .u8 x] w (Ans (.bool true) w) := by
  have hb := bounds_u8 hx
  have h0 : 0 ≤ x := hb.1
  have h1 : x < 256 := by omega
  clear hb hx
  have f1 := has_not c x.toNat (by omega)
  have f2 := not_and c d
  have f3 := not_or c d
  have f4 := not_not' c
  have f5 : (cnt c + cnt (~~~c) == 256) = true := by simpa using cnt_not c
  have f6 : (cnt (c &&& d) + cnt (c ||| d) == cnt c + cnt d) = true := by simpa using cnt_mod c d
  have b1 := cnt_bd c
  have b2 := cnt_bd d
  have b3 := cnt_bd (c &&& d)
  have b4 := cnt_bd (c ||| d)
  have b5 := cnt_bd (~~~c)
  have s1 : IntKind.i64.wrap (cnt c + cnt (~~~c)) = cnt c + cnt (~~~c) := IntWalk.i64_in _ (by omega)
  have s2 : IntKind.i64.wrap (cnt (c &&& d) + cnt (c ||| d)) = cnt (c &&& d) + cnt (c ||| d) := IntWalk.i64_in _ (by omega)
  have s3 : IntKind.i64.wrap (cnt c + cnt d) = cnt c + cnt d := IntWalk.i64_in _ (by omega)
  have f7 := guard_cl
  have f8 := equal_cl
  go_enter Try.func4, Try.ntmps4
  repeat (first | go_values | go_skip | go_guarded | go_step | go_upon)
  refine (small_any _).mono ?_
  rintro e w1 ⟨rfl, hb1⟩
  obtain ⟨hc1, hf1⟩ := bcell hb1
  have hz1 := hb1.size
  try simp at hz1
  have q1_0 : w.heap.size < w1.heap.size := by omega
  have q1_1 : w.heap.size + 1 < w1.heap.size := by omega
  dsimp only
  repeat (first | go_values | go_skip | go_guarded | go_step | go_upon)
  refine (not_any _ _).mono ?_
  rintro e w2 ⟨rfl, hb2⟩
  obtain ⟨hc2, hf2⟩ := bcell hb2
  have hz2 := hb2.size
  try simp at hz2
  have q2_0 : w.heap.size < w2.heap.size := by omega
  have q2_1 : w.heap.size + 1 < w2.heap.size := by omega
  dsimp only
  repeat (first | go_values | go_skip | go_guarded | go_step | go_upon)
  refine (not_any _ _).mono ?_
  rintro e w3 ⟨rfl, hb3⟩
  obtain ⟨hc3, hf3⟩ := bcell hb3
  have hz3 := hb3.size
  try simp at hz3
  have q3_0 : w.heap.size < w3.heap.size := by omega
  have q3_1 : w.heap.size + 1 < w3.heap.size := by omega
  have q3_2 : w2.heap.size < w3.heap.size := by omega
  dsimp only
  repeat (first | go_values | go_skip | go_guarded | go_step | go_upon)
  have hG := grown_cell
  have g4_0 : w.heap.size < w3.heap.size + 1 := by omega
  have g4_1 : w.heap.size + 1 < w3.heap.size + 1 := by omega
  have g4_2 : w2.heap.size < w3.heap.size + 1 := by omega
  have g4_3 : w3.heap.size < w3.heap.size + 1 := by omega
  refine wp_region_qb (by kernel_rfl) (by kernel_rfl) ?_
  repeat (quiet_step (first | exact ans_quiet (both_any _ _ _) | exact ans_quiet (either_any _ _ _) | exact ans_quiet (not_any _ _)))
  refine wpQuiet_nil ?_
  intro w4 hb4
  clear hG
  obtain ⟨hc4, hf4⟩ := bcell hb4
  have hz4 := hb4.size
  try simp at hz4
  have q4_0 : w.heap.size < w4.heap.size := by omega
  have q4_1 : w.heap.size + 1 < w4.heap.size := by omega
  have q4_2 : w2.heap.size < w4.heap.size := by omega
  have q4_3 : w3.heap.size < w4.heap.size := by omega
  repeat (first | go_values | go_skip | go_guarded | go_step | go_upon)
  have hG := grown_cell
  have g5_0 : w.heap.size < w4.heap.size := by omega
  have g5_1 : w.heap.size + 1 < w4.heap.size := by omega
  have g5_2 : w2.heap.size < w4.heap.size := by omega
  have g5_3 : w3.heap.size < w4.heap.size := by omega
  refine wp_region_qb (by kernel_rfl) (by kernel_rfl) ?_
  repeat (quiet_step (first | exact ans_quiet (count_any _ _) | exact ans_quiet (both_any _ _ _) | exact ans_quiet (either_any _ _ _)))
  refine wpQuiet_nil ?_
  intro w5 hb5
  clear hG
  obtain ⟨hc5, hf5⟩ := bcell hb5
  have hz5 := hb5.size
  try simp at hz5
  have q5_0 : w.heap.size < w5.heap.size := by omega
  have q5_1 : w.heap.size + 1 < w5.heap.size := by omega
  have q5_2 : w2.heap.size < w5.heap.size := by omega
  have q5_3 : w3.heap.size < w5.heap.size := by omega
  repeat (first | go_values | go_skip | go_guarded | go_step | go_upon)
  have hG := grown_cell
  have g6_0 : w.heap.size < w5.heap.size := by omega
  have g6_1 : w.heap.size + 1 < w5.heap.size := by omega
  have g6_2 : w2.heap.size < w5.heap.size := by omega
  have g6_3 : w3.heap.size < w5.heap.size := by omega
  refine wp_region_qb (by kernel_rfl) (by kernel_rfl) ?_
  repeat (quiet_step (first | exact ans_quiet (has_any _ _ _ h0 h1)))
  refine wpQuiet_nil ?_
  intro w6 hb6
  clear hG
  obtain ⟨hc6, hf6⟩ := bcell hb6
  have hz6 := hb6.size
  try simp at hz6
  have q6_0 : w.heap.size < w6.heap.size := by omega
  have q6_1 : w.heap.size + 1 < w6.heap.size := by omega
  have q6_2 : w2.heap.size < w6.heap.size := by omega
  have q6_3 : w3.heap.size < w6.heap.size := by omega
  repeat (first | go_values | go_skip | go_guarded | go_step | go_upon)
  go_ret
  exact ⟨rfl, (by repeat (first | exact Below.refl _ _ | assumption | refine bal ?_ _ | refine bdr ?_ | refine bdrn ?_ _ | (refine bset ?_ (by first | exact Nat.le_refl _ | (simp; done) | (simp; omega) | omega) _) | refine bstep ?_ (by assumption)))⟩
end Go.Proofs.Ytfnbdpigpeonmaa
