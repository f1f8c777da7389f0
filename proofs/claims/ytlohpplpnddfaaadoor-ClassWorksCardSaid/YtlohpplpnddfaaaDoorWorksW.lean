/- The walk of ClassWorks. -/
import Derived.Test.YtlohpplpnddfaaaDoorSmall
import Derived.Test.YtlohpplpnddfaaaDoorEq
import Derived.Test.YtlohpplpnddfaaaDoorAsV
import Derived.Test.YtlohpplpnddfaaaDoorRefM
import Derived.OpenShut
namespace Go.Proofs.YtlohpplpnddfaaaDoor
open Go.RowKit Go.Sort

theorem rrange_int (lo hi : Int) (w : World) (h : 0 ≤ lo) (h0 : lo ≤ hi) (h1 : hi ≤ 255) :
    Calls Tryd.prog 25 #[.int .i64 lo, .int .i64 hi] w (Ans (.tuple #[.agg #[.int .u64 (wd (rng lo.toNat hi.toNat) 0), .int .u64 (wd (rng lo.toNat hi.toNat) 1), .int .u64 (wd (rng lo.toNat hi.toNat) 2), .int .u64 (wd (rng lo.toNat hi.toNat) 3)], .int .i64 0]) w) := by
  have e := rrange_yes lo.toNat hi.toNat w (by omega) (by omega)
  rwa [Int.toNat_of_nonneg h, Int.toNat_of_nonneg (by omega : 0 ≤ hi)] at e
theorem mix0 (c d : BitVec 256) (w : World) : Calls Tryd.prog 28 #[.int .i64 0, .agg #[.int .u64 (wd c 0), .int .u64 (wd c 1), .int .u64 (wd c 2), .int .u64 (wd c 3)], .agg #[.int .u64 (wd d 0), .int .u64 (wd d 1), .int .u64 (wd d 2), .int .u64 (wd d 3)]] w (Ans (.agg #[.int .u64 (wd (c &&& d) 0), .int .u64 (wd (c &&& d) 1), .int .u64 (wd (c &&& d) 2), .int .u64 (wd (c &&& d) 3)]) w) := by
  have h := mix_any 0 c d w (.inl rfl)
  rwa [show mixed 0 c d = c &&& d from rfl] at h
theorem mix1 (c d : BitVec 256) (w : World) : Calls Tryd.prog 28 #[.int .i64 1, .agg #[.int .u64 (wd c 0), .int .u64 (wd c 1), .int .u64 (wd c 2), .int .u64 (wd c 3)], .agg #[.int .u64 (wd d 0), .int .u64 (wd d 1), .int .u64 (wd d 2), .int .u64 (wd d 3)]] w (Ans (.agg #[.int .u64 (wd (c ||| d) 0), .int .u64 (wd (c ||| d) 1), .int .u64 (wd (c ||| d) 2), .int .u64 (wd (c ||| d) 3)]) w) := by
  have h := mix_any 1 c d w (.inr (.inl rfl))
  rwa [show mixed 1 c d = c ||| d from rfl] at h
theorem mix2 (c d : BitVec 256) (w : World) : Calls Tryd.prog 28 #[.int .i64 2, .agg #[.int .u64 (wd c 0), .int .u64 (wd c 1), .int .u64 (wd c 2), .int .u64 (wd c 3)], .agg #[.int .u64 (wd d 0), .int .u64 (wd d 1), .int .u64 (wd d 2), .int .u64 (wd d 3)]] w (Ans (.agg #[.int .u64 (wd (~~~c) 0), .int .u64 (wd (~~~c) 1), .int .u64 (wd (~~~c) 2), .int .u64 (wd (~~~c) 3)]) w) := by
  have h := mix_any 2 c d w (.inr (.inr rfl))
  rwa [show mixed 2 c d = ~~~c from rfl] at h

set_option maxRecDepth 100000 in
set_option maxHeartbeats 1600000 in
theorem works_any (c d : BitVec 256) (x lo hi : Int) (w : World) (hg : Laid w) (wx : (Lit.int .u8 x).wf = true) (wl : (Lit.int .i64 lo).wf = true) (wh : (Lit.int .i64 hi).wf = true) :
    Calls Tryd.prog 4 #[.agg #[.int .u64 (wd c 0), .int .u64 (wd c 1), .int .u64 (wd c 2), .int .u64 (wd c 3)], .agg #[.int .u64 (wd d 0), .int .u64 (wd d 1), .int .u64 (wd d 2), .int .u64 (wd d 3)], .int .u8 x, .int .i64 lo, .int .i64 hi] w (Ans (.bool true) w) := by
  obtain ⟨x0, x1⟩ := bounds_u8 wx
  clear wl wh wx
  have f5 := guard_cl
  have f6 := equal_cl
  have f7 : ∀ c : BitVec 256, (c == c) = true := fun c => by simp
  have f8 : IntKind.i64.wrap x = x := by
    simp [IntKind.wrap, IntKind.bits, IntKind.signed]
    omega
  have HG := Lib.hid hg
  clear hg
  by_cases hbad : lo < 0 ∨ 255 < hi ∨ hi < lo
  · go_enter Tryd.func4, Tryd.ntmps4
    repeat (first | go_values | go_skip | go_guarded | go_step | go_upon)
    refine (small_any _).mono ?_
    rintro e w1 ⟨rfl, hb1⟩
    obtain ⟨hc1, hf1⟩ := bcell hb1
    have hz1 := hb1.size
    try simp at hz1
    have q1_0 : w.heap.size < w1.heap.size := by omega
    have q1_1 : w.heap.size + 1 < w1.heap.size := by omega
    dsimp only
    repeat (first | go_values | go_skip | go_guarded | go_step | go_upon)
    refine (range_no _ _ _ hbad).mono ?_
    rintro e w2 ⟨rfl, hb2⟩
    obtain ⟨hc2, hf2⟩ := bcell hb2
    have hz2 := hb2.size
    try simp at hz2
    have q2_0 : w.heap.size < w2.heap.size := by omega
    have q2_1 : w.heap.size + 1 < w2.heap.size := by omega
    dsimp only
    repeat (first | go_values | go_skip | go_guarded | go_step | go_upon)
    refine (rrange_no _ _ _ hbad).mono ?_
    rintro e w3 ⟨rfl, hb3⟩
    obtain ⟨hc3, hf3⟩ := bcell hb3
    have hz3 := hb3.size
    try simp at hz3
    have q3_0 : w.heap.size < w3.heap.size := by omega
    have q3_1 : w.heap.size + 1 < w3.heap.size := by omega
    have q3_2 : w2.heap.size < w3.heap.size := by omega
    dsimp only
    repeat (first | go_values | go_skip | go_guarded | go_step | go_upon)
    have hG := grown_cell
    have g4_0 : w.heap.size < w3.heap.size + 1 := by omega
    have g4_1 : w.heap.size + 1 < w3.heap.size + 1 := by omega
    have g4_2 : w2.heap.size < w3.heap.size + 1 := by omega
    have g4_3 : w3.heap.size < w3.heap.size + 1 := by omega
    refine wp_region_qb (by kernel_rfl) (by kernel_rfl) ?_
    repeat (quiet_step (first | (with_reducible exact ans_quiet (code_E 1 _ (HG.out.below (B := w.heap.size) (bstep (by repeat (first | exact Below.refl _ _ | assumption | refine bal ?_ _ | refine bdr ?_ | refine bdrn ?_ _ | (refine bset ?_ (by first | exact Nat.le_refl _ | (simp; done) | (simp; omega) | omega) _) | refine bstep ?_ (by assumption))) (below_regrown _ _ _)) HG.out.pos))) | (with_reducible exact ans_quiet (has_any _ _ _ x0 (by omega))) | (with_reducible exact ans_quiet (rhas_any _ _ _ x0 (by omega)))))
    refine wpQuiet_nil ?_
    intro w4 hb4
    clear hG
    obtain ⟨hc4, hf4⟩ := bcell hb4
    have hz4 := hb4.size
    try simp at hz4
    have q4_0 : w.heap.size < w4.heap.size := by omega
    have q4_1 : w.heap.size + 1 < w4.heap.size := by omega
    have q4_2 : w2.heap.size < w4.heap.size := by omega
    have q4_3 : w3.heap.size < w4.heap.size := by omega
    repeat (first | go_values | go_skip | go_guarded | go_step | go_upon)
    have hG := grown_cell
    have g5_0 : w.heap.size < w4.heap.size := by omega
    have g5_1 : w.heap.size + 1 < w4.heap.size := by omega
    have g5_2 : w2.heap.size < w4.heap.size := by omega
    have g5_3 : w3.heap.size < w4.heap.size := by omega
    refine wp_region_qb (by kernel_rfl) (by kernel_rfl) ?_
    repeat (quiet_step (first | (with_reducible exact ans_quiet (both_any _ _ _)) | (with_reducible exact ans_quiet (either_any _ _ _)) | (with_reducible exact ans_quiet (mix0 _ _ _)) | (with_reducible exact ans_quiet (mix1 _ _ _))))
    refine wpQuiet_nil ?_
    intro w5 hb5
    clear hG
    obtain ⟨hc5, hf5⟩ := bcell hb5
    have hz5 := hb5.size
    try simp at hz5
    have q5_0 : w.heap.size < w5.heap.size := by omega
    have q5_1 : w.heap.size + 1 < w5.heap.size := by omega
    have q5_2 : w2.heap.size < w5.heap.size := by omega
    have q5_3 : w3.heap.size < w5.heap.size := by omega
    repeat (first | go_values | go_skip | go_guarded | go_step | go_upon)
    have hG := grown_cell
    have g6_0 : w.heap.size < w5.heap.size := by omega
    have g6_1 : w.heap.size + 1 < w5.heap.size := by omega
    have g6_2 : w2.heap.size < w5.heap.size := by omega
    have g6_3 : w3.heap.size < w5.heap.size := by omega
    refine wp_region_qb (by kernel_rfl) (by kernel_rfl) ?_
    repeat (quiet_step (first | (with_reducible exact ans_quiet (not_any _ _)) | (with_reducible exact ans_quiet (mix2 _ _ _)) | (with_reducible exact ans_quiet (count_any _ _)) | (with_reducible exact ans_quiet (rcount_any _ _))))
    refine wpQuiet_nil ?_
    intro w6 hb6
    clear hG
    obtain ⟨hc6, hf6⟩ := bcell hb6
    have hz6 := hb6.size
    try simp at hz6
    have q6_0 : w.heap.size < w6.heap.size := by omega
    have q6_1 : w.heap.size + 1 < w6.heap.size := by omega
    have q6_2 : w2.heap.size < w6.heap.size := by omega
    have q6_3 : w3.heap.size < w6.heap.size := by omega
    repeat (first | go_values | go_skip | go_guarded | go_step | go_upon)
    go_ret
    exact ⟨rfl, (by repeat (first | exact Below.refl _ _ | assumption | refine bal ?_ _ | refine bdr ?_ | refine bdrn ?_ _ | (refine bset ?_ (by first | exact Nat.le_refl _ | (simp; done) | (simp; omega) | omega) _) | refine bstep ?_ (by assumption)))⟩
  · have l0 : 0 ≤ lo := by omega
    have l1 : lo ≤ hi := by omega
    have l2 : hi ≤ 255 := by omega
    clear hbad
    go_enter Tryd.func4, Tryd.ntmps4
    repeat (first | go_values | go_skip | go_guarded | go_step | go_upon)
    refine (small_any _).mono ?_
    rintro e w1 ⟨rfl, hb1⟩
    obtain ⟨hc1, hf1⟩ := bcell hb1
    have hz1 := hb1.size
    try simp at hz1
    have q1_0 : w.heap.size < w1.heap.size := by omega
    have q1_1 : w.heap.size + 1 < w1.heap.size := by omega
    dsimp only
    repeat (first | go_values | go_skip | go_guarded | go_step | go_upon)
    refine (range_yes _ _ _ l0 l1 l2).mono ?_
    rintro e w2 ⟨rfl, hb2⟩
    obtain ⟨hc2, hf2⟩ := bcell hb2
    have hz2 := hb2.size
    try simp at hz2
    have q2_0 : w.heap.size < w2.heap.size := by omega
    have q2_1 : w.heap.size + 1 < w2.heap.size := by omega
    dsimp only
    repeat (first | go_values | go_skip | go_guarded | go_step | go_upon)
    refine (rrange_int _ _ _ l0 l1 l2).mono ?_
    rintro e w3 ⟨rfl, hb3⟩
    obtain ⟨hc3, hf3⟩ := bcell hb3
    have hz3 := hb3.size
    try simp at hz3
    have q3_0 : w.heap.size < w3.heap.size := by omega
    have q3_1 : w.heap.size + 1 < w3.heap.size := by omega
    have q3_2 : w2.heap.size < w3.heap.size := by omega
    dsimp only
    repeat (first | go_values | go_skip | go_guarded | go_step | go_upon)
    have hG := grown_cell
    have g4_0 : w.heap.size < w3.heap.size + 1 := by omega
    have g4_1 : w.heap.size + 1 < w3.heap.size + 1 := by omega
    have g4_2 : w2.heap.size < w3.heap.size + 1 := by omega
    have g4_3 : w3.heap.size < w3.heap.size + 1 := by omega
    refine wp_region_qb (by kernel_rfl) (by kernel_rfl) ?_
    repeat (quiet_step (first | (with_reducible exact ans_quiet (code_nil _)) | (with_reducible exact ans_quiet (has_any _ _ _ x0 (by omega))) | (with_reducible exact ans_quiet (rhas_any _ _ _ x0 (by omega)))))
    refine wpQuiet_nil ?_
    intro w4 hb4
    clear hG
    obtain ⟨hc4, hf4⟩ := bcell hb4
    have hz4 := hb4.size
    try simp at hz4
    have q4_0 : w.heap.size < w4.heap.size := by omega
    have q4_1 : w.heap.size + 1 < w4.heap.size := by omega
    have q4_2 : w2.heap.size < w4.heap.size := by omega
    have q4_3 : w3.heap.size < w4.heap.size := by omega
    repeat (first | go_values | go_skip | go_guarded | go_step | go_upon)
    have hG := grown_cell
    have g5_0 : w.heap.size < w4.heap.size := by omega
    have g5_1 : w.heap.size + 1 < w4.heap.size := by omega
    have g5_2 : w2.heap.size < w4.heap.size := by omega
    have g5_3 : w3.heap.size < w4.heap.size := by omega
    refine wp_region_qb (by kernel_rfl) (by kernel_rfl) ?_
    repeat (quiet_step (first | (with_reducible exact ans_quiet (both_any _ _ _)) | (with_reducible exact ans_quiet (either_any _ _ _)) | (with_reducible exact ans_quiet (mix0 _ _ _)) | (with_reducible exact ans_quiet (mix1 _ _ _))))
    refine wpQuiet_nil ?_
    intro w5 hb5
    clear hG
    obtain ⟨hc5, hf5⟩ := bcell hb5
    have hz5 := hb5.size
    try simp at hz5
    have q5_0 : w.heap.size < w5.heap.size := by omega
    have q5_1 : w.heap.size + 1 < w5.heap.size := by omega
    have q5_2 : w2.heap.size < w5.heap.size := by omega
    have q5_3 : w3.heap.size < w5.heap.size := by omega
    repeat (first | go_values | go_skip | go_guarded | go_step | go_upon)
    have hG := grown_cell
    have g6_0 : w.heap.size < w5.heap.size := by omega
    have g6_1 : w.heap.size + 1 < w5.heap.size := by omega
    have g6_2 : w2.heap.size < w5.heap.size := by omega
    have g6_3 : w3.heap.size < w5.heap.size := by omega
    refine wp_region_qb (by kernel_rfl) (by kernel_rfl) ?_
    repeat (quiet_step (first | (with_reducible exact ans_quiet (not_any _ _)) | (with_reducible exact ans_quiet (mix2 _ _ _)) | (with_reducible exact ans_quiet (count_any _ _)) | (with_reducible exact ans_quiet (rcount_any _ _))))
    refine wpQuiet_nil ?_
    intro w6 hb6
    clear hG
    obtain ⟨hc6, hf6⟩ := bcell hb6
    have hz6 := hb6.size
    try simp at hz6
    have q6_0 : w.heap.size < w6.heap.size := by omega
    have q6_1 : w.heap.size + 1 < w6.heap.size := by omega
    have q6_2 : w2.heap.size < w6.heap.size := by omega
    have q6_3 : w3.heap.size < w6.heap.size := by omega
    repeat (first | go_values | go_skip | go_guarded | go_step | go_upon)
    go_ret
    exact ⟨rfl, (by repeat (first | exact Below.refl _ _ | assumption | refine bal ?_ _ | refine bdr ?_ | refine bdrn ?_ _ | (refine bset ?_ (by first | exact Nat.le_refl _ | (simp; done) | (simp; omega) | omega) _) | refine bstep ?_ (by assumption)))⟩
end Go.Proofs.YtlohpplpnddfaaaDoor
