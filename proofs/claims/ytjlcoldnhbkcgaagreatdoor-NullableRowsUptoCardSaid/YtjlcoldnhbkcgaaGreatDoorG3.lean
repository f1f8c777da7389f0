/- Walks of package class: what is done with classes. | How many bits a word has: Go's sums come to it. Plain. | Walks of package class: ranges, counts. | The walk of a byte's sign. -/
import Derived.Test.YtjlcoldnhbkcgaaGreatDoorRows
import Derived.Test.YtjlcoldnhbkcgaaGreatDoorG0
import Derived.Test.YtjlcoldnhbkcgaaGreatDoorShelf
namespace Go.Proofs.YtjlcoldnhbkcgaaGreatDoor
open Go.RowKit Go.Sort

set_option maxHeartbeats 400000 in
theorem has_any (c : BitVec 256) (x : Int) (w : World) (h0 : 0 ≤ x) (h1 : x < 256) :
    Calls Tryz.prog 142 #[.agg #[.int .u64 (wd c 0), .int .u64 (wd c 1), .int .u64 (wd c 2), .int .u64 (wd c 3)], .int .u8 x] w (Ans (.bool (Has c x.toNat)) w) := by
  have hi := cl_get c (x/64).toNat (by omega)
  have HH := Lib.hid (has_wd c x h0 h1)
  go_enter Tryz.func142, Tryz.ntmps142
  go_wp2
  go_ret
  exact ⟨ret_bool HH.out, (Below.refl _ _).alloc (Nat.le_refl _) _⟩

set_option maxHeartbeats 800000 in
theorem either_any (c d : BitVec 256) (w : World) :
    Calls Tryz.prog 133 #[.agg #[.int .u64 (wd c 0), .int .u64 (wd c 1), .int .u64 (wd c 2), .int .u64 (wd c 3)], .agg #[.int .u64 (wd d 0), .int .u64 (wd d 1), .int .u64 (wd d 2), .int .u64 (wd d 3)]] w (Ans (.agg #[.int .u64 (wd (c ||| d) 0), .int .u64 (wd (c ||| d) 1), .int .u64 (wd (c ||| d) 2), .int .u64 (wd (c ||| d) 3)]) w) := by
  have ha := or_wd c d
  go_enter Tryz.func133, Tryz.ntmps133
  go_wp2
  refine wp_loop_rounds 5 ?_
  rw [rounds_succ]
  go_wp2
  go_region
  go_wp2
  rw [rounds_succ]
  go_wp2
  go_region
  go_wp2
  rw [rounds_succ]
  go_wp2
  go_region
  go_wp2
  rw [rounds_succ]
  go_wp2
  go_region
  go_wp2
  rw [rounds_succ]
  go_wp2
  exact bodyPost_ret (v := .agg #[.int .u64 (wd (c ||| d) 0), .int .u64 (wd (c ||| d) 1), .int .u64 (wd (c ||| d) 2), .int .u64 (wd (c ||| d) 3)]) (by simp [results, Tryz.results133, go_sem]) rfl ⟨rfl, (by repeat (first | exact Below.refl _ _ | assumption | refine bal ?_ _ | refine bdr ?_ | refine bdrn ?_ _ | (refine bset ?_ (by first | exact Nat.le_refl _ | (simp; done) | (simp; omega) | omega) _) | refine bstep ?_ (by assumption)))⟩

set_option maxHeartbeats 800000 in
theorem not_any (c : BitVec 256) (w : World) :
    Calls Tryz.prog 134 #[.agg #[.int .u64 (wd c 0), .int .u64 (wd c 1), .int .u64 (wd c 2), .int .u64 (wd c 3)]] w (Ans (.agg #[.int .u64 (wd (~~~c) 0), .int .u64 (wd (~~~c) 1), .int .u64 (wd (~~~c) 2), .int .u64 (wd (~~~c) 3)]) w) := by
  have n0 := not_wd c 0 (by decide)
  have n1 := not_wd c 1 (by decide)
  have n2 := not_wd c 2 (by decide)
  have n3 := not_wd c 3 (by decide)
  have hs : ¬ IntKind.u64.signed = true := by decide
  go_enter Tryz.func134, Tryz.ntmps134
  go_wp2
  refine wp_loop_rounds 5 ?_
  rw [rounds_succ]
  go_wp2
  rw [rounds_succ]
  go_wp2
  rw [rounds_succ]
  go_wp2
  rw [rounds_succ]
  go_wp2
  rw [rounds_succ]
  go_wp2
  exact bodyPost_ret (v := .agg #[.int .u64 (wd (~~~c) 0), .int .u64 (wd (~~~c) 1), .int .u64 (wd (~~~c) 2), .int .u64 (wd (~~~c) 3)]) (by simp [results, Tryz.results134, go_sem]) rfl ⟨rfl, (by repeat (first | exact Below.refl _ _ | assumption | refine bal ?_ _ | refine bdr ?_ | refine bdrn ?_ _ | (refine bset ?_ (by first | exact Nat.le_refl _ | (simp; done) | (simp; omega) | omega) _) | refine bstep ?_ (by assumption)))⟩

set_option maxRecDepth 100000 in
set_option maxHeartbeats 800000 in
theorem next_any (c : BitVec 256) (k0 : Int) (b : Bool) (w : World) (h0 : 0 ≤ k0) (h1 : k0 ≤ 256) :
    Calls Tryz.prog 137 #[.agg #[.int .u64 (wd c 0), .int .u64 (wd c 1), .int .u64 (wd c 2), .int .u64 (wd c 3)], .int .i64 k0, .bool b] w (Ans (.int .i64 (nxt c b k0.toNat)) w) := by
  obtain ⟨n, rfl⟩ := Int.eq_ofNat_of_zero_le h0
  rw [Int.toNat_natCast]
  go_enter Tryz.func137, Tryz.ntmps137
  go_wp2
  go_loopw [1] (fun t wr => ∃ k : Nat, k ≤ 256 ∧ t = .int .i64 k ∧ Hid (nxt c b k = nxt c b n) ∧ Below (w.alloc (.cells #[.int .u64 (wd c 0), .int .u64 (wd c 1), .int .u64 (wd c 2), .int .u64 (wd c 3)] 37)).heap.size (w.alloc (.cells #[.int .u64 (wd c 0), .int .u64 (wd c 1), .int .u64 (wd c 2), .int .u64 (wd c 3)] 37)) wr) (fun t _ => 256 - (intOf t).toNat)
  case atStart => exact ⟨n, by omega, rfl, Lib.hid rfl, Below.refl _ _⟩
  case round =>
    obtain ⟨k, hk, rfl, hn, hb⟩ := hrel
    obtain ⟨hc, hf⟩ := bcell hb
    by_cases hlt : k < 256
    · by_cases he : Has c k = b
      · have he2 : (Has c k == b) = true := by simpa using he
        have HE := Lib.hid he
        clear he
        go_wp2_with (go_at_call 142; refine (has_any _ _ _ (by omega) (by omega)).mono ?_; rintro e w1 ⟨rfl, hb1⟩)
        go_ret
        exact ⟨ret_int (by rw [← hn.out, nxt_hit hlt HE.out]), (by repeat (first | exact Below.refl _ _ | assumption | refine bal ?_ _ | refine bdr ?_ | refine bdrn ?_ _ | (refine bset ?_ (by first | exact Nat.le_refl _ | (simp; done) | (simp; omega) | omega) _) | refine bstep ?_ (by assumption)))⟩
      · have he2 : (Has c k == b) = false := by simpa using he
        go_wp2_with (go_at_call 142; refine (has_any _ _ _ (by omega) (by omega)).mono ?_; rintro e w1 ⟨rfl, hb1⟩)
        exact ⟨⟨k + 1, by omega, by go_num, Lib.hid ((nxt_miss hlt he).symm.trans hn.out), (by repeat (first | exact Below.refl _ _ | assumption | refine bal ?_ _ | refine bdr ?_ | refine bdrn ?_ _ | (refine bset ?_ (by first | exact Nat.le_refl _ | (simp; done) | (simp; omega) | omega) _) | refine bstep ?_ (by assumption)))⟩, by simp [intOf]; omega⟩
    · have hk2 : k = 256 := by omega
      subst hk2
      have hn2 := Lib.hid (nxt_end c b)
      go_wp2
      go_ret
      exact ⟨ret_int (by rw [← hn.out, hn2.out]), (by repeat (first | exact Below.refl _ _ | assumption | refine bal ?_ _ | refine bdr ?_ | refine bdrn ?_ _ | (refine bset ?_ (by first | exact Nat.le_refl _ | (simp; done) | (simp; omega) | omega) _) | refine bstep ?_ (by assumption)))⟩

set_option maxRecDepth 100000 in
set_option maxHeartbeats 800000 in
theorem span_any (lo hi : Nat) (w : World) (h0 : lo ≤ hi) (h1 : hi ≤ 255) :
    Calls Tryz.prog 141 #[.int .i64 lo, .int .i64 hi] w (Ans (.agg #[.int .u64 (wd (rng lo hi) 0), .int .u64 (wd (rng lo hi) 1), .int .u64 (wd (rng lo hi) 2), .int .u64 (wd (rng lo hi) 3)]) w) := by
  go_enter Tryz.func141, Tryz.ntmps141
  go_wp2
  go_loopw [8] (fun t wr => ∃ k : Nat, k ≤ 4 ∧ t = .int .i64 k ∧ wr = w.alloc (.cells #[.int .u64 (sw (rng lo hi) 0 k), .int .u64 (sw (rng lo hi) 1 k), .int .u64 (sw (rng lo hi) 2 k), .int .u64 (sw (rng lo hi) 3 k)] 37)) (fun t _ => 4 - (intOf t).toNat)
  case atStart => exact ⟨0, by omega, rfl, by simp [sw]⟩
  case round =>
    obtain ⟨k, hk, rfl, rfl⟩ := hrel
    match k, hk with
    | 0, _ =>
      by_cases c1 : hi < 0
      · go_wp2
        all_goals first | omega | exact ⟨⟨1, by omega, rfl, by rw [sw_out _ _ (wd_rng_out lo hi 0 (by omega) h1 (by omega)), sw_step (rng lo hi) (j := 1) (k := 0) (by decide), sw_step (rng lo hi) (j := 2) (k := 0) (by decide), sw_step (rng lo hi) (j := 3) (k := 0) (by decide)]⟩, by simp [intOf]⟩
      · by_cases c2 : 63 < lo
        · go_wp2
          all_goals first | omega | exact ⟨⟨1, by omega, rfl, by rw [sw_out _ _ (wd_rng_out lo hi 0 (by omega) h1 (by omega)), sw_step (rng lo hi) (j := 1) (k := 0) (by decide), sw_step (rng lo hi) (j := 2) (k := 0) (by decide), sw_step (rng lo hi) (j := 3) (k := 0) (by decide)]⟩, by simp [intOf]⟩
        · go_wp2
          refine ⟨⟨1, by omega, rfl, ?_⟩, by simp [intOf]⟩
          rw [sw_lt (rng lo hi) (show 0 < 1 by decide), sw_step (rng lo hi) (j := 1) (k := 0) (by decide), sw_step (rng lo hi) (j := 2) (k := 0) (by decide), sw_step (rng lo hi) (j := 3) (k := 0) (by decide), wd_rng lo hi 0 _ _ (by decide) (by omega) (by omega) h0 h1 ?_ ?_]
          all_goals ((repeat' split) <;> omega)
    | 1, _ =>
      by_cases c1 : hi < 64
      · go_wp2
        all_goals first | omega | exact ⟨⟨2, by omega, rfl, by rw [sw_out _ _ (wd_rng_out lo hi 1 (by omega) h1 (by omega)), sw_step (rng lo hi) (j := 0) (k := 1) (by decide), sw_step (rng lo hi) (j := 2) (k := 1) (by decide), sw_step (rng lo hi) (j := 3) (k := 1) (by decide)]⟩, by simp [intOf]⟩
      · by_cases c2 : 127 < lo
        · go_wp2
          all_goals first | omega | exact ⟨⟨2, by omega, rfl, by rw [sw_out _ _ (wd_rng_out lo hi 1 (by omega) h1 (by omega)), sw_step (rng lo hi) (j := 0) (k := 1) (by decide), sw_step (rng lo hi) (j := 2) (k := 1) (by decide), sw_step (rng lo hi) (j := 3) (k := 1) (by decide)]⟩, by simp [intOf]⟩
        · go_wp2
          refine ⟨⟨2, by omega, rfl, ?_⟩, by simp [intOf]⟩
          rw [sw_lt (rng lo hi) (show 1 < 2 by decide), sw_step (rng lo hi) (j := 0) (k := 1) (by decide), sw_step (rng lo hi) (j := 2) (k := 1) (by decide), sw_step (rng lo hi) (j := 3) (k := 1) (by decide), wd_rng lo hi 1 _ _ (by decide) (by omega) (by omega) h0 h1 ?_ ?_]
          all_goals ((repeat' split) <;> omega)
    | 2, _ =>
      by_cases c1 : hi < 128
      · go_wp2
        all_goals first | omega | exact ⟨⟨3, by omega, rfl, by rw [sw_out _ _ (wd_rng_out lo hi 2 (by omega) h1 (by omega)), sw_step (rng lo hi) (j := 0) (k := 2) (by decide), sw_step (rng lo hi) (j := 1) (k := 2) (by decide), sw_step (rng lo hi) (j := 3) (k := 2) (by decide)]⟩, by simp [intOf]⟩
      · by_cases c2 : 191 < lo
        · go_wp2
          all_goals first | omega | exact ⟨⟨3, by omega, rfl, by rw [sw_out _ _ (wd_rng_out lo hi 2 (by omega) h1 (by omega)), sw_step (rng lo hi) (j := 0) (k := 2) (by decide), sw_step (rng lo hi) (j := 1) (k := 2) (by decide), sw_step (rng lo hi) (j := 3) (k := 2) (by decide)]⟩, by simp [intOf]⟩
        · go_wp2
          refine ⟨⟨3, by omega, rfl, ?_⟩, by simp [intOf]⟩
          rw [sw_lt (rng lo hi) (show 2 < 3 by decide), sw_step (rng lo hi) (j := 0) (k := 2) (by decide), sw_step (rng lo hi) (j := 1) (k := 2) (by decide), sw_step (rng lo hi) (j := 3) (k := 2) (by decide), wd_rng lo hi 2 _ _ (by decide) (by omega) (by omega) h0 h1 ?_ ?_]
          all_goals ((repeat' split) <;> omega)
    | 3, _ =>
      by_cases c1 : hi < 192
      · go_wp2
        all_goals first | omega | exact ⟨⟨4, by omega, rfl, by rw [sw_out _ _ (wd_rng_out lo hi 3 (by omega) h1 (by omega)), sw_step (rng lo hi) (j := 0) (k := 3) (by decide), sw_step (rng lo hi) (j := 1) (k := 3) (by decide), sw_step (rng lo hi) (j := 2) (k := 3) (by decide)]⟩, by simp [intOf]⟩
      · by_cases c2 : 255 < lo
        · go_wp2
          all_goals first | omega | exact ⟨⟨4, by omega, rfl, by rw [sw_out _ _ (wd_rng_out lo hi 3 (by omega) h1 (by omega)), sw_step (rng lo hi) (j := 0) (k := 3) (by decide), sw_step (rng lo hi) (j := 1) (k := 3) (by decide), sw_step (rng lo hi) (j := 2) (k := 3) (by decide)]⟩, by simp [intOf]⟩
        · go_wp2
          refine ⟨⟨4, by omega, rfl, ?_⟩, by simp [intOf]⟩
          rw [sw_lt (rng lo hi) (show 3 < 4 by decide), sw_step (rng lo hi) (j := 0) (k := 3) (by decide), sw_step (rng lo hi) (j := 1) (k := 3) (by decide), sw_step (rng lo hi) (j := 2) (k := 3) (by decide), wd_rng lo hi 3 _ _ (by decide) (by omega) (by omega) h0 h1 ?_ ?_]
          all_goals ((repeat' split) <;> omega)
    | 4, _ =>
      rw [sw_lt _ (by omega : 0 < 4), sw_lt _ (by omega : 1 < 4), sw_lt _ (by omega : 2 < 4), sw_lt _ (by omega : 3 < 4)]
      go_wp2
      exact bodyPost_ret (v := .agg #[.int .u64 (wd (rng lo hi) 0), .int .u64 (wd (rng lo hi) 1), .int .u64 (wd (rng lo hi) 2), .int .u64 (wd (rng lo hi) 3)]) (by simp [results, Tryz.results141, go_sem]) rfl ⟨rfl, (by repeat (first | exact Below.refl _ _ | assumption | refine bal ?_ _ | refine bdr ?_ | refine bdrn ?_ _ | (refine bset ?_ (by first | exact Nat.le_refl _ | (simp; done) | (simp; omega) | omega) _) | refine bstep ?_ (by assumption)))⟩

theorem span_call (lo hi : Int) (w : World) (h : 0 ≤ lo) (h0 : lo ≤ hi) (h1 : hi ≤ 255) :
    Calls Tryz.prog 141 #[.int .i64 lo, .int .i64 hi] w (Ans (.agg #[.int .u64 (wd (rng lo.toNat hi.toNat) 0), .int .u64 (wd (rng lo.toNat hi.toNat) 1), .int .u64 (wd (rng lo.toNat hi.toNat) 2), .int .u64 (wd (rng lo.toNat hi.toNat) 3)]) w) := by
  obtain ⟨a, rfl⟩ := Int.eq_ofNat_of_zero_le h
  obtain ⟨b, rfl⟩ := Int.eq_ofNat_of_zero_le (show 0 ≤ hi by omega)
  exact span_any a b w (by omega) (by omega)

end Go.Proofs.YtjlcoldnhbkcgaaGreatDoor
namespace Go.Proofs.YtjlcoldnhbkcgaaGreatDoor
open Go.RowKit

theorem and_dig (a b x y : Nat) (ha : a < 256) (hb : b < 256) : (a + 256 * x) &&& (b + 256 * y) = (a &&& b) + 256 * (x &&& y) := by
  have hab : a &&& b < 2 ^ 8 := Nat.lt_of_le_of_lt Nat.and_le_left ha
  apply Nat.eq_of_testBit_eq
  intro i
  rw [Nat.testBit_and, show a + 256 * x = 2 ^ 8 * x + a by omega, show b + 256 * y = 2 ^ 8 * y + b by omega, show (a &&& b) + 256 * (x &&& y) = 2 ^ 8 * (x &&& y) + (a &&& b) by omega,
    Nat.testBit_two_pow_mul_add _ ha, Nat.testBit_two_pow_mul_add _ hb, Nat.testBit_two_pow_mul_add _ hab]
  by_cases h : i < 8 <;> simp [h, Nat.testBit_and]
/-- Eight bytes as one number. -/
def by8 (a b c d e f g h : Nat) : Nat := a + 256 * (b + 256 * (c + 256 * (d + 256 * (e + 256 * (f + 256 * (g + 256 * h))))))
theorem and_by8 {a b c d e f g h : Nat} (m : Nat) (hm : m < 256) (ha : a < 256) (hb : b < 256) (hc : c < 256) (hd : d < 256) (he : e < 256) (hf : f < 256) (hg : g < 256) (_hh : h < 256) :
    by8 a b c d e f g h &&& by8 m m m m m m m m = by8 (a &&& m) (b &&& m) (c &&& m) (d &&& m) (e &&& m) (f &&& m) (g &&& m) (h &&& m) := by
  unfold by8
  rw [and_dig _ _ _ _ ha hm, and_dig _ _ _ _ hb hm, and_dig _ _ _ _ hc hm, and_dig _ _ _ _ hd hm, and_dig _ _ _ _ he hm, and_dig _ _ _ _ hf hm, and_dig _ _ _ _ hg hm]
/-- The bits of a byte. -/
def pop8 (b : Nat) : Nat := b % 2 + b / 2 % 2 + b / 4 % 2 + b / 8 % 2 + b / 16 % 2 + b / 32 % 2 + b / 64 % 2 + b / 128 % 2
def st1 (b : Nat) : Nat := (b / 2 &&& 85) + (b &&& 85)
def st2 (b : Nat) : Nat := (b / 4 &&& 51) + (b &&& 51)
def st3 (b : Nat) : Nat := (b / 16 + b) &&& 15
theorem st1_top : ∀ b : Fin 256, ∀ t : Fin 2, ((b.val / 2 + 128 * t.val) &&& 85) = b.val / 2 &&& 85 := by decide +kernel
theorem st1_le : ∀ b : Fin 256, st1 b.val ≤ 170 := by decide +kernel
theorem st2_top : ∀ b : Fin 256, ∀ t : Fin 4, ((b.val / 4 + 64 * t.val) &&& 51) = b.val / 4 &&& 51 := by decide +kernel
theorem st2_le : ∀ b : Fin 256, st2 (st1 b.val) ≤ 68 := by decide +kernel
theorem st3_top : ∀ b : Fin 69, ∀ t : Fin 16, ((b.val / 16 + b.val + 16 * t.val) &&& 15) = (b.val / 16 + b.val) &&& 15 := by decide +kernel
theorem st_pop : ∀ b : Fin 256, st3 (st2 (st1 b.val)) = pop8 b.val := by decide +kernel
theorem st_nib : ∀ b : Fin 256, st2 (st1 b.val) % 16 ≤ 4 := by decide +kernel
theorem pop8_le (b : Nat) : pop8 b ≤ 8 := by unfold pop8; omega
theorem u64_and_N (a b : Nat) (ha : a < 18446744073709551616) (hb : b < 18446744073709551616) : bits .and .u64 (a : Int) (b : Int) = ((a &&& b : Nat) : Int) := u64_and_nat a b ha hb
theorem by8_lt {a b c d e f g h : Nat} (ha : a < 256) (hb : b < 256) (hc : c < 256) (hd : d < 256) (he : e < 256) (hf : f < 256) (hg : g < 256) (hh : h < 256) : by8 a b c d e f g h < 18446744073709551616 := by
  unfold by8; omega
theorem by8_lt63 {a b c d e f g h : Nat} (ha : a < 256) (hb : b < 256) (hc : c < 256) (hd : d < 256) (he : e < 256) (hf : f < 256) (hg : g < 256) (hh : h < 128) : by8 a b c d e f g h < 9223372036854775808 := by
  unfold by8; omega
theorem and_lt' (a m : Nat) (hm : m < 256) : a &&& m < 256 := Nat.lt_of_le_of_lt Nat.and_le_right hm

theorem by8_half (a b c d e f g h : Nat) : by8 a b c d e f g h / 2 = by8 (a / 2 + 128 * (b % 2)) (b / 2 + 128 * (c % 2)) (c / 2 + 128 * (d % 2)) (d / 2 + 128 * (e % 2)) (e / 2 + 128 * (f % 2)) (f / 2 + 128 * (g % 2)) (g / 2 + 128 * (h % 2)) (h / 2) := by
  have s : ∀ a x : Nat, (a + 256 * x) / 2 = a / 2 + 128 * (x % 2) + 256 * (x / 2) := fun a x => by omega
  have m : ∀ a x : Nat, (a + 256 * x) % 2 = a % 2 := fun a x => by omega
  unfold by8; simp only [s, m]
theorem by8_quarter (a b c d e f g h : Nat) : by8 a b c d e f g h / 4 = by8 (a / 4 + 64 * (b % 4)) (b / 4 + 64 * (c % 4)) (c / 4 + 64 * (d % 4)) (d / 4 + 64 * (e % 4)) (e / 4 + 64 * (f % 4)) (f / 4 + 64 * (g % 4)) (g / 4 + 64 * (h % 4)) (h / 4) := by
  have s : ∀ a x : Nat, (a + 256 * x) / 4 = a / 4 + 64 * (x % 4) + 256 * (x / 4) := fun a x => by omega
  have m : ∀ a x : Nat, (a + 256 * x) % 4 = a % 4 := fun a x => by omega
  unfold by8; simp only [s, m]
theorem by8_sixteenth (a b c d e f g h : Nat) : by8 a b c d e f g h / 16 = by8 (a / 16 + 16 * (b % 16)) (b / 16 + 16 * (c % 16)) (c / 16 + 16 * (d % 16)) (d / 16 + 16 * (e % 16)) (e / 16 + 16 * (f % 16)) (f / 16 + 16 * (g % 16)) (g / 16 + 16 * (h % 16)) (h / 16) := by
  have s : ∀ a x : Nat, (a + 256 * x) / 16 = a / 16 + 16 * (x % 16) + 256 * (x / 16) := fun a x => by omega
  have m : ∀ a x : Nat, (a + 256 * x) % 16 = a % 16 := fun a x => by omega
  unfold by8; simp only [s, m]
theorem by8_add (a b c d e f g h a' b' c' d' e' f' g' h' : Nat) : by8 a b c d e f g h + by8 a' b' c' d' e' f' g' h' = by8 (a + a') (b + b') (c + c') (d + d') (e + e') (f + f') (g + g') (h + h') := by
  unfold by8; simp only [Nat.mul_add]; ac_rfl
theorem wrapN (n : Nat) (h : n < 18446744073709551616) : IntKind.u64.wrap (n : Int) = (n : Int) := by rw [IntKind.wrap_u64]; omega
theorem natdiv (n k : Nat) : (n : Int) / (k : Int) = ((n / k : Nat) : Int) := (Int.natCast_ediv n k).symm

theorem ones1_by8 {a b c d e f g h : Nat} (ha : a < 256) (hb : b < 256) (hc : c < 256) (hd : d < 256) (he : e < 256) (hf : f < 256) (hg : g < 256) (hh : h < 256) :
    ones1 (by8 a b c d e f g h : Nat) = (by8 (st1 a) (st1 b) (st1 c) (st1 d) (st1 e) (st1 f) (st1 g) (st1 h) : Nat) := by
  unfold ones1
  have hx := by8_lt ha hb hc hd he hf hg hh
  have em : (6148914691236517205 : Int) = ((by8 85 85 85 85 85 85 85 85 : Nat) : Int) := by decide
  have hm : by8 85 85 85 85 85 85 85 85 < 18446744073709551616 := by decide
  rw [show (2 : Int) = ((2 : Nat) : Int) from rfl, natdiv, by8_half, em, u64_and_N _ _ (by8_lt (by omega) (by omega) (by omega) (by omega) (by omega) (by omega) (by omega) (by omega)) hm, u64_and_N _ _ hx hm]
  rw [and_by8 85 (by decide) (by omega) (by omega) (by omega) (by omega) (by omega) (by omega) (by omega) (by omega), and_by8 85 (by decide) ha hb hc hd he hf hg hh]
  have t : ∀ x y : Nat, x < 256 → ((x / 2 + 128 * (y % 2)) &&& 85) = x / 2 &&& 85 := fun x y hx => st1_top ⟨x, hx⟩ ⟨y % 2, by omega⟩
  have l := fun (x : Nat) (hx : x < 256) => Nat.lt_of_le_of_lt (st1_le ⟨x, hx⟩) (by decide : 170 < 256)
  rw [t a b ha, t b c hb, t c d hc, t d e hd, t e f he, t f g hf, t g h hg, ← Int.natCast_add, by8_add]
  exact wrapN _ (by8_lt (l a ha) (l b hb) (l c hc) (l d hd) (l e he) (l f hf) (l g hg) (l h hh))
theorem ones2_by8 {a b c d e f g h : Nat} (ha : a < 256) (hb : b < 256) (hc : c < 256) (hd : d < 256) (he : e < 256) (hf : f < 256) (hg : g < 256) (hh : h < 256)
    (la : st2 a ≤ 68) (lb : st2 b ≤ 68) (lc : st2 c ≤ 68) (ld : st2 d ≤ 68) (le : st2 e ≤ 68) (lf : st2 f ≤ 68) (lg : st2 g ≤ 68) (lh : st2 h ≤ 68) :
    ones2 (by8 a b c d e f g h : Nat) = (by8 (st2 a) (st2 b) (st2 c) (st2 d) (st2 e) (st2 f) (st2 g) (st2 h) : Nat) := by
  unfold ones2
  have hx := by8_lt ha hb hc hd he hf hg hh
  have em : (3689348814741910323 : Int) = ((by8 51 51 51 51 51 51 51 51 : Nat) : Int) := by decide
  have hm : by8 51 51 51 51 51 51 51 51 < 18446744073709551616 := by decide
  rw [show (4 : Int) = ((4 : Nat) : Int) from rfl, natdiv, by8_quarter, em, u64_and_N _ _ (by8_lt (by omega) (by omega) (by omega) (by omega) (by omega) (by omega) (by omega) (by omega)) hm, u64_and_N _ _ hx hm]
  rw [and_by8 51 (by decide) (by omega) (by omega) (by omega) (by omega) (by omega) (by omega) (by omega) (by omega), and_by8 51 (by decide) ha hb hc hd he hf hg hh]
  have t : ∀ x y : Nat, x < 256 → ((x / 4 + 64 * (y % 4)) &&& 51) = x / 4 &&& 51 := fun x y hx => st2_top ⟨x, hx⟩ ⟨y % 4, by omega⟩
  rw [t a b ha, t b c hb, t c d hc, t d e hd, t e f he, t f g hf, t g h hg, ← Int.natCast_add, by8_add]
  have l := fun (x : Nat) (hx : x ≤ 68) => Nat.lt_of_le_of_lt hx (by decide : 68 < 256)
  exact wrapN _ (by8_lt (l _ la) (l _ lb) (l _ lc) (l _ ld) (l _ le) (l _ lf) (l _ lg) (l _ lh))
theorem ones3_by8 {a b c d e f g h : Nat} (la : a ≤ 68) (lb : b ≤ 68) (lc : c ≤ 68) (ld : d ≤ 68) (le : e ≤ 68) (lf : f ≤ 68) (lg : g ≤ 68) (lh : h ≤ 68)
    (nb : b % 16 ≤ 4) (nc : c % 16 ≤ 4) (nd : d % 16 ≤ 4) (ne : e % 16 ≤ 4) (nf : f % 16 ≤ 4) (ng : g % 16 ≤ 4) (nh : h % 16 ≤ 4) :
    ones3 (by8 a b c d e f g h : Nat) = (by8 (st3 a) (st3 b) (st3 c) (st3 d) (st3 e) (st3 f) (st3 g) (st3 h) : Nat) := by
  unfold ones3
  have em : (1085102592571150095 : Int) = ((by8 15 15 15 15 15 15 15 15 : Nat) : Int) := by decide
  have hm : by8 15 15 15 15 15 15 15 15 < 18446744073709551616 := by decide
  have t : ∀ x y : Nat, x ≤ 68 → ((x / 16 + 16 * (y % 16) + x) &&& 15) = st3 x := fun x y hx => by
    rw [show x / 16 + 16 * (y % 16) + x = x / 16 + x + 16 * (y % 16) by omega]
    exact st3_top ⟨x, by omega⟩ ⟨y % 16, by omega⟩
  have hb8 := by8_lt (show a / 16 + 16 * (b % 16) + a < 256 by omega) (show b / 16 + 16 * (c % 16) + b < 256 by omega) (show c / 16 + 16 * (d % 16) + c < 256 by omega) (show d / 16 + 16 * (e % 16) + d < 256 by omega) (show e / 16 + 16 * (f % 16) + e < 256 by omega) (show f / 16 + 16 * (g % 16) + f < 256 by omega) (show g / 16 + 16 * (h % 16) + g < 256 by omega) (show h / 16 + h < 256 by omega)
  rw [show (16 : Int) = ((16 : Nat) : Int) from rfl, natdiv, by8_sixteenth, ← Int.natCast_add, by8_add, wrapN _ hb8, em, u64_and_N _ _ hb8 hm]
  rw [and_by8 15 (by decide) (by omega) (by omega) (by omega) (by omega) (by omega) (by omega) (by omega) (by omega)]
  rw [t a b la, t b c lb, t c d lc, t d e ld, t e f le, t f g lf, t g h lg]
  rfl
theorem by8_cut1 {a b c d e f g h : Nat} (ha : a < 256) : by8 a b c d e f g h / 256 = by8 b c d e f g h 0 := by
  unfold by8; generalize b + 256 * (c + 256 * (d + 256 * (e + 256 * (f + 256 * (g + 256 * h))))) = x at *
  omega
theorem by8_cut2 {a b c d e f g h : Nat} (ha : a < 256) (hb : b < 256) : by8 a b c d e f g h / 65536 = by8 c d e f g h 0 0 := by
  rw [show 65536 = 256 * 256 from rfl, ← Nat.div_div_eq_div_mul, by8_cut1 ha, by8_cut1 hb]
theorem by8_cut4 {a b c d e f g h : Nat} (ha : a < 256) (hb : b < 256) (hc : c < 256) (hd : d < 256) : by8 a b c d e f g h / 4294967296 = by8 e f g h 0 0 0 0 := by
  rw [show 4294967296 = 65536 * 65536 from rfl, ← Nat.div_div_eq_div_mul, by8_cut2 ha hb, by8_cut2 hc hd]
/-- All eight are at most m. -/
def le8 (m a b c d e f g h : Nat) : Prop := a ≤ m ∧ b ≤ m ∧ c ≤ m ∧ d ≤ m ∧ e ≤ m ∧ f ≤ m ∧ g ≤ m ∧ h ≤ m
theorem le8_lt {m a b c d e f g h : Nat} (l : le8 m a b c d e f g h) (hm : m < 128) : by8 a b c d e f g h < 9223372036854775808 := by
  obtain ⟨a1, a2, a3, a4, a5, a6, a7, a8⟩ := l
  have k := fun (x : Nat) (hx : x ≤ m) => Nat.lt_of_le_of_lt hx (Nat.lt_trans hm (by decide : 128 < 256))
  exact by8_lt63 (k _ a1) (k _ a2) (k _ a3) (k _ a4) (k _ a5) (k _ a6) (k _ a7) (Nat.lt_of_le_of_lt a8 hm)
theorem le8_add {m a b c d e f g h a' b' c' d' e' f' g' h' : Nat} (l : le8 m a b c d e f g h) (l' : le8 m a' b' c' d' e' f' g' h') : le8 (m + m) (a + a') (b + b') (c + c') (d + d') (e + e') (f + f') (g + g') (h + h') := by
  obtain ⟨a1, a2, a3, a4, a5, a6, a7, a8⟩ := l
  obtain ⟨b1, b2, b3, b4, b5, b6, b7, b8⟩ := l'
  exact ⟨Nat.add_le_add a1 b1, Nat.add_le_add a2 b2, Nat.add_le_add a3 b3, Nat.add_le_add a4 b4, Nat.add_le_add a5 b5, Nat.add_le_add a6 b6, Nat.add_le_add a7 b7, Nat.add_le_add a8 b8⟩
theorem lt256 {x m : Nat} (h : x ≤ m) (hm : m < 128) : x < 256 := by omega
theorem ones4_by8 {m a b c d e f g h : Nat} (l : le8 m a b c d e f g h) (hm : m < 64) :
    ones4 (by8 a b c d e f g h : Nat) = (by8 (a + b) (b + c) (c + d) (d + e) (e + f) (f + g) (g + h) (h + 0) : Nat) ∧ le8 (m + m) (a + b) (b + c) (c + d) (d + e) (e + f) (f + g) (g + h) (h + 0) := by
  have l2 : le8 (m + m) (a + b) (b + c) (c + d) (d + e) (e + f) (f + g) (g + h) (h + 0) := le8_add l ⟨l.2.1, l.2.2.1, l.2.2.2.1, l.2.2.2.2.1, l.2.2.2.2.2.1, l.2.2.2.2.2.2.1, l.2.2.2.2.2.2.2, Nat.zero_le _⟩
  refine ⟨?_, l2⟩
  unfold ones4
  rw [show (256 : Int) = ((256 : Nat) : Int) from rfl, natdiv, by8_cut1 (lt256 l.1 (by omega)), ← Int.natCast_add, by8_add]
  exact wrapN _ (Nat.lt_trans (le8_lt l2 (by omega)) (by decide))
theorem ones5_by8 {m a b c d e f g h : Nat} (l : le8 m a b c d e f g h) (hm : m < 64) :
    ones5 (by8 a b c d e f g h : Nat) = (by8 (a + c) (b + d) (c + e) (d + f) (e + g) (f + h) (g + 0) (h + 0) : Nat) ∧ le8 (m + m) (a + c) (b + d) (c + e) (d + f) (e + g) (f + h) (g + 0) (h + 0) := by
  have l2 : le8 (m + m) (a + c) (b + d) (c + e) (d + f) (e + g) (f + h) (g + 0) (h + 0) := le8_add l ⟨l.2.2.1, l.2.2.2.1, l.2.2.2.2.1, l.2.2.2.2.2.1, l.2.2.2.2.2.2.1, l.2.2.2.2.2.2.2, Nat.zero_le _, Nat.zero_le _⟩
  refine ⟨?_, l2⟩
  unfold ones5
  rw [show (65536 : Int) = ((65536 : Nat) : Int) from rfl, natdiv, by8_cut2 (lt256 l.1 (by omega)) (lt256 l.2.1 (by omega)), ← Int.natCast_add, by8_add]
  exact wrapN _ (Nat.lt_trans (le8_lt l2 (by omega)) (by decide))
theorem ones6_by8 {m a b c d e f g h : Nat} (l : le8 m a b c d e f g h) (hm : m < 64) :
    ones6 (by8 a b c d e f g h : Nat) = (by8 (a + e) (b + f) (c + g) (d + h) (e + 0) (f + 0) (g + 0) (h + 0) : Nat) ∧ le8 (m + m) (a + e) (b + f) (c + g) (d + h) (e + 0) (f + 0) (g + 0) (h + 0) := by
  have l2 : le8 (m + m) (a + e) (b + f) (c + g) (d + h) (e + 0) (f + 0) (g + 0) (h + 0) := le8_add l ⟨l.2.2.2.2.1, l.2.2.2.2.2.1, l.2.2.2.2.2.2.1, l.2.2.2.2.2.2.2, Nat.zero_le _, Nat.zero_le _, Nat.zero_le _, Nat.zero_le _⟩
  refine ⟨?_, l2⟩
  unfold ones6
  rw [show (4294967296 : Int) = ((4294967296 : Nat) : Int) from rfl, natdiv, by8_cut4 (lt256 l.1 (by omega)) (lt256 l.2.1 (by omega)) (lt256 l.2.2.1 (by omega)) (lt256 l.2.2.2.1 (by omega)), ← Int.natCast_add, by8_add]
  exact wrapN _ (Nat.lt_trans (le8_lt l2 (by omega)) (by decide))
theorem ones7_nat (s r : Nat) (hs : s < 128) (h : s + 256 * r < 9223372036854775808) : ones7 ((s + 256 * r : Nat) : Int) = (s : Int) := by
  unfold ones7
  have h1 : wrap64 ((s + 256 * r : Nat) : Int) = ((s + 256 * r : Nat) : Int) := by unfold wrap64; omega
  rw [h1]
  have := bits_mask .i64 63 (by decide) (fun n h0 h1 => by rw [IntKind.wrap_i64]; omega) 7 (by decide) ((s + 256 * r : Nat) : Int) (by omega) (by omega)
  rw [show (127 : Int) = 2 ^ 7 - 1 from rfl, this]
  omega
theorem ones456_by8 {a b c d e f g h : Nat} (l : le8 8 a b c d e f g h) :
    ones7 (ones6 (ones5 (ones4 (by8 a b c d e f g h : Nat)))) = ((a + b + (c + d) + (e + f + (g + h)) : Nat) : Int) := by
  obtain ⟨e4, l4⟩ := ones4_by8 l (by decide)
  rw [e4]
  obtain ⟨e5, l5⟩ := ones5_by8 l4 (by decide)
  rw [e5]
  obtain ⟨e6, l6⟩ := ones6_by8 l5 (by decide)
  rw [e6]
  have hl := le8_lt l6 (by decide)
  have h1 := l6.1
  clear e4 e5 e6 l4 l5 l6 l
  unfold by8 at hl ⊢
  exact ones7_nat _ _ (Nat.lt_of_le_of_lt h1 (by decide)) hl
/-- A number's bits below 2 ^ k. -/
def popN (n : Nat) : Nat → Nat
  | 0 => 0
  | k + 1 => popN n k + n / 2 ^ k % 2
theorem pop8_mod (m : Nat) : pop8 (m % 256) = m % 2 + m / 2 % 2 + m / 4 % 2 + m / 8 % 2 + m / 16 % 2 + m / 32 % 2 + m / 64 % 2 + m / 128 % 2 := by
  unfold pop8; omega
theorem popN_step (n k : Nat) : popN n (k + 8) = popN n k + pop8 (n / 2 ^ k % 256) := by
  rw [pop8_mod]
  simp only [popN, Nat.pow_add, ← Nat.div_div_eq_div_mul]
  simp only [Nat.reducePow]
  omega
theorem ones_pop (n : Nat) (hn : n < 18446744073709551616) : ones7 (ones n) = (popN n 64 : Int) := by
  have e : n = by8 (n / 2 ^ 0 % 256) (n / 2 ^ 8 % 256) (n / 2 ^ 16 % 256) (n / 2 ^ 24 % 256) (n / 2 ^ 32 % 256) (n / 2 ^ 40 % 256) (n / 2 ^ 48 % 256) (n / 2 ^ 56 % 256) := by
    unfold by8; omega
  have p : popN n 64 = pop8 (n / 2 ^ 0 % 256) + pop8 (n / 2 ^ 8 % 256) + pop8 (n / 2 ^ 16 % 256) + pop8 (n / 2 ^ 24 % 256) + pop8 (n / 2 ^ 32 % 256) + pop8 (n / 2 ^ 40 % 256) + pop8 (n / 2 ^ 48 % 256) + pop8 (n / 2 ^ 56 % 256) := by
    rw [popN_step n 56, popN_step n 48, popN_step n 40, popN_step n 32, popN_step n 24, popN_step n 16, popN_step n 8, popN_step n 0]
    simp [popN]
  rw [p]
  have lt : ∀ k, n / 2 ^ k % 256 < 256 := fun k => Nat.mod_lt _ (by decide)
  have la := lt 0; have lb := lt 8; have lc := lt 16; have ld := lt 24; have le := lt 32; have lf := lt 40; have lg := lt 48; have lh := lt 56
  rw [show ones7 (ones (n : Int)) = ones7 (ones6 (ones5 (ones4 (ones3 (ones2 (ones1 (n : Int))))))) from rfl]
  conv => lhs; rw [e]
  clear e p hn lt
  generalize n / 2 ^ 0 % 256 = a at *
  generalize n / 2 ^ 8 % 256 = b at *
  generalize n / 2 ^ 16 % 256 = c at *
  generalize n / 2 ^ 24 % 256 = d at *
  generalize n / 2 ^ 32 % 256 = e at *
  generalize n / 2 ^ 40 % 256 = f at *
  generalize n / 2 ^ 48 % 256 = g at *
  generalize n / 2 ^ 56 % 256 = h at *
  have t1 := fun (x : Nat) (hx : x < 256) => Nat.lt_of_le_of_lt (st1_le ⟨x, hx⟩) (by decide : 170 < 256)
  have t2 := fun (x : Nat) (hx : x < 256) => st2_le ⟨x, hx⟩
  have t3 := fun (x : Nat) (hx : x < 256) => st_nib ⟨x, hx⟩
  have t4 : ∀ x : Nat, x < 256 → st3 (st2 (st1 x)) = pop8 x := fun x hx => st_pop ⟨x, hx⟩
  rw [ones1_by8 la lb lc ld le lf lg lh,
    ones2_by8 (t1 _ la) (t1 _ lb) (t1 _ lc) (t1 _ ld) (t1 _ le) (t1 _ lf) (t1 _ lg) (t1 _ lh) (t2 _ la) (t2 _ lb) (t2 _ lc) (t2 _ ld) (t2 _ le) (t2 _ lf) (t2 _ lg) (t2 _ lh),
    ones3_by8 (t2 _ la) (t2 _ lb) (t2 _ lc) (t2 _ ld) (t2 _ le) (t2 _ lf) (t2 _ lg) (t2 _ lh) (t3 _ lb) (t3 _ lc) (t3 _ ld) (t3 _ le) (t3 _ lf) (t3 _ lg) (t3 _ lh),
    t4 _ la, t4 _ lb, t4 _ lc, t4 _ ld, t4 _ le, t4 _ lf, t4 _ lg, t4 _ lh,
    ones456_by8 ⟨pop8_le _, pop8_le _, pop8_le _, pop8_le _, pop8_le _, pop8_le _, pop8_le _, pop8_le _⟩]
  congr 1
  omega
/-- How many bytes below n are in the class. -/
def cntTo (c : BitVec 256) : Nat → Nat
  | 0 => 0
  | n + 1 => cntTo c n + if Has c n then 1 else 0
def cnt (c : BitVec 256) : Int := (cntTo c 256 : Int)
theorem has_and (c d : BitVec 256) (k : Nat) : Has (c &&& d) k = (Has c k && Has d k) := by unfold Has; simp
theorem has_or (c d : BitVec 256) (k : Nat) : Has (c ||| d) k = (Has c k || Has d k) := by unfold Has; simp
theorem has_not (c : BitVec 256) (k : Nat) (hk : k < 256) : Has (~~~c) k = !Has c k := by unfold Has; simp [hk]
theorem cl_ext {c d : BitVec 256} (h : ∀ k, k < 256 → Has c k = Has d k) : c = d := BitVec.eq_of_getLsbD_eq h
theorem and_absorb (c d : BitVec 256) : (c &&& d) &&& (c ||| d) = c &&& d := by
  apply cl_ext
  intro k _
  rw [has_and, has_and, has_or]
  cases Has c k <;> cases Has d k <;> rfl
theorem cntTo_mono (c d : BitVec 256) (n : Nat) : cntTo (c &&& d) n ≤ cntTo (c ||| d) n := by
  induction n with
  | zero => exact Nat.le_refl _
  | succ n ih =>
    rw [cntTo, cntTo, has_and, has_or]
    cases Has c n <;> cases Has d n <;> simp <;> omega
theorem cnt_mono (c d : BitVec 256) : cnt (c &&& d) ≤ cnt (c ||| d) := by
  have := cntTo_mono c d 256
  unfold cnt
  omega
theorem cntTo_mod (c d : BitVec 256) (n : Nat) : cntTo (c &&& d) n + cntTo (c ||| d) n = cntTo c n + cntTo d n := by
  induction n with
  | zero => rfl
  | succ n ih =>
    rw [cntTo, cntTo, cntTo, cntTo, has_and, has_or]
    cases Has c n <;> cases Has d n <;> simp <;> omega
theorem cnt_mod (c d : BitVec 256) : cnt (c &&& d) + cnt (c ||| d) = cnt c + cnt d := by
  have := cntTo_mod c d 256
  unfold cnt
  omega
theorem cntTo_not (c : BitVec 256) (n : Nat) (hn : n ≤ 256) : cntTo c n + cntTo (~~~c) n = n := by
  induction n with
  | zero => rfl
  | succ n ih =>
    have := ih (by omega)
    rw [cntTo, cntTo, has_not c n (by omega)]
    cases Has c n <;> simp <;> omega
theorem cnt_not (c : BitVec 256) : cnt c + cnt (~~~c) = 256 := by
  have := cntTo_not c 256 (by decide)
  unfold cnt
  omega
theorem cntTo_le (c : BitVec 256) (n : Nat) : cntTo c n ≤ n := by
  induction n with
  | zero => exact Nat.le_refl _
  | succ n ih => rw [cntTo]; split <;> omega
theorem cnt_bd (c : BitVec 256) : 0 ≤ cnt c ∧ cnt c ≤ 256 := by
  have := cntTo_le c 256
  unfold cnt
  omega
def popw (c : BitVec 256) (i : Nat) : Nat := popN (c.extractLsb' (64 * i) 64).toNat 64
theorem popw_bits (c : BitVec 256) (i : Nat) : ∀ k, k ≤ 64 → cntTo c (64 * i + k) = cntTo c (64 * i) + popN (c.extractLsb' (64 * i) 64).toNat k := by
  intro k
  induction k with
  | zero => intro _; rfl
  | succ k ih =>
    intro hk
    rw [← Nat.add_assoc, cntTo, ih (by omega), popN]
    have : (c.extractLsb' (64 * i) 64).toNat / 2 ^ k % 2 = if Has c (64 * i + k) then 1 else 0 := by
      have h1 : (c.extractLsb' (64 * i) 64).getLsbD k = Has c (64 * i + k) := by
        rw [BitVec.getLsbD_extractLsb']; simp [Has]; omega
      rw [← h1, BitVec.getLsbD, Nat.testBit_eq_decide_div_mod_eq]
      have := Nat.mod_two_eq_zero_or_one ((c.extractLsb' (64 * i) 64).toNat / 2 ^ k)
      rcases this with h | h <;> rw [h] <;> rfl
    rw [this]
    omega
theorem cnt_popw (c : BitVec 256) : cnt c = (popw c 0 + popw c 1 + popw c 2 + popw c 3 : Nat) := by
  unfold cnt popw
  have h0 := popw_bits c 0 64 (by decide)
  have h1 := popw_bits c 1 64 (by decide)
  have h2 := popw_bits c 2 64 (by decide)
  have h3 := popw_bits c 3 64 (by decide)
  rw [show cntTo c (64 * 0) = 0 from rfl] at h0
  simp only [Nat.reduceMul, Nat.reduceAdd] at *
  omega
theorem popN_le (n : Nat) : ∀ k, popN n k ≤ k := by
  intro k
  induction k with
  | zero => exact Nat.le_refl _
  | succ k ih => rw [popN]; omega
theorem popw_le (c : BitVec 256) (i : Nat) : popw c i ≤ 64 := popN_le _ 64
theorem ones_wd (c : BitVec 256) (i : Nat) : ones7 (ones (wd c i)) = (popw c i : Int) := by
  unfold wd popw
  exact ones_pop _ (c.extractLsb' (64 * i) 64).isLt
end Go.Proofs.YtjlcoldnhbkcgaaGreatDoor
namespace Go.Proofs.YtjlcoldnhbkcgaaGreatDoor
open Go.RowKit Go.Sort

end Go.Proofs.YtjlcoldnhbkcgaaGreatDoor
namespace Go.Proofs.YtjlcoldnhbkcgaaGreatDoor
open Go.RowKit Go.Sort

theorem idx_any (s : ByteArray) (c r : Int) (w : World) (h : Lib.indexByte s.data.toList c.toNat.toUInt8 = r) : Calls Tryz.prog 57 #[.string s, .int .u8 c] w (Ans (.int .i64 r) w) :=
  (Tryz.strings_IndexByte s c w).mono fun e w' ⟨he, hw⟩ => ⟨by rw [he, h], by rw [hw]; exact Below.refl _ _⟩
theorem enc_one : ∀ b : Nat, b < 128 → Utf8.encode (b : Int) = ⟨#[b.toUInt8]⟩ := by decide +kernel
theorem and15 : ∀ b : Nat, b < 256 → bits .and .u8 (b : Int) 15 = ((b % 16 : Nat) : Int) := by decide +kernel
set_option maxRecDepth 100000 in
set_option maxHeartbeats 1600000 in
theorem sign_any (b : Nat) (w : World) (hb : b < 256) : Calls Tryz.prog 123 #[.int .i64 b] w (Ans (.string ⟨(sgn b).toArray⟩) w) := by
  rcases sgn_kinds b hb with h | h | ⟨h, n1, n2, n3, l1, l2⟩ | ⟨h, n1, n2, n3, l⟩
  · rcases h with rfl | rfl | rfl
    · go_enter Tryz.func123, Tryz.ntmps123
      repeat (first | go_values | go_skip | go_guarded | go_step | go_upon)
      refine (idx_any _ _ 0 _ (by decide)).mono ?_
      rintro e w1 ⟨rfl, hb1⟩
      obtain ⟨hc1, hf1⟩ := bcell hb1
      have hz1 := hb1.size
      try simp at hz1
      dsimp only
      repeat (first | go_values | go_skip | go_guarded | go_step | go_upon)
      go_ret
      exact ⟨rfl, (by repeat (first | exact Below.refl _ _ | assumption | refine bal ?_ _ | refine bdr ?_ | refine bdrn ?_ _ | (refine bset ?_ (by first | exact Nat.le_refl _ | (simp; done) | (simp; omega) | omega) _) | refine bstep ?_ (by assumption)))⟩
    · go_enter Tryz.func123, Tryz.ntmps123
      repeat (first | go_values | go_skip | go_guarded | go_step | go_upon)
      refine (idx_any _ _ 1 _ (by decide)).mono ?_
      rintro e w1 ⟨rfl, hb1⟩
      obtain ⟨hc1, hf1⟩ := bcell hb1
      have hz1 := hb1.size
      try simp at hz1
      dsimp only
      repeat (first | go_values | go_skip | go_guarded | go_step | go_upon)
      go_ret
      exact ⟨rfl, (by repeat (first | exact Below.refl _ _ | assumption | refine bal ?_ _ | refine bdr ?_ | refine bdrn ?_ _ | (refine bset ?_ (by first | exact Nat.le_refl _ | (simp; done) | (simp; omega) | omega) _) | refine bstep ?_ (by assumption)))⟩
    · go_enter Tryz.func123, Tryz.ntmps123
      repeat (first | go_values | go_skip | go_guarded | go_step | go_upon)
      refine (idx_any _ _ 2 _ (by decide)).mono ?_
      rintro e w1 ⟨rfl, hb1⟩
      obtain ⟨hc1, hf1⟩ := bcell hb1
      have hz1 := hb1.size
      try simp at hz1
      dsimp only
      repeat (first | go_values | go_skip | go_guarded | go_step | go_upon)
      go_ret
      exact ⟨rfl, (by repeat (first | exact Below.refl _ _ | assumption | refine bal ?_ _ | refine bdr ?_ | refine bdrn ?_ _ | (refine bset ?_ (by first | exact Nat.le_refl _ | (simp; done) | (simp; omega) | omega) _) | refine bstep ?_ (by assumption)))⟩
  · rcases five_list h with rfl | rfl | rfl | rfl | rfl
    all_goals
      clear h
      go_enter Tryz.func123, Tryz.ntmps123
      repeat (first | go_values | go_skip | go_guarded | go_step | go_upon)
      refine (idx_any _ _ _ _ rfl).mono ?_
      rintro e w1 ⟨rfl, hb1⟩
      obtain ⟨hc1, hf1⟩ := bcell hb1
      have hz1 := hb1.size
      try simp at hz1
      dsimp only
      repeat (first | go_values | go_skip | go_guarded | go_step | go_upon)
      refine (idx_any _ _ _ _ rfl).mono ?_
      rintro e w2 ⟨rfl, hb2⟩
      obtain ⟨hc2, hf2⟩ := bcell hb2
      have hz2 := hb2.size
      try simp at hz2
      dsimp only
      repeat (first | go_values | go_skip | go_guarded | go_step | go_upon)
      go_ret
      exact ⟨rfl, (by repeat (first | exact Below.refl _ _ | assumption | refine bal ?_ _ | refine bdr ?_ | refine bdrn ?_ _ | (refine bset ?_ (by first | exact Nat.le_refl _ | (simp; done) | (simp; omega) | omega) _) | refine bstep ?_ (by assumption)))⟩
  · have hs := Lib.hid (sgn_plain h n1 n2 n3 l1 l2)
    have i1 := Lib.hid (stand_no b hb n1 n2 n3)
    have i2 := Lib.hid (marked_no b hb h)
    have d1 : decide ((b : Int) < 32) = false := by simp; omega
    have d2 : decide ((126 : Int) < b) = false := by simp; omega
    clear h n1 n2 n3
    go_enter Tryz.func123, Tryz.ntmps123
    repeat (first | go_values | go_skip | go_guarded | go_step | go_upon)
    refine (idx_any _ _ _ _ i1.out).mono ?_
    rintro e w1 ⟨rfl, hb1⟩
    obtain ⟨hc1, hf1⟩ := bcell hb1
    have hz1 := hb1.size
    try simp at hz1
    dsimp only
    repeat (first | go_values | go_skip | go_guarded | go_step | go_upon)
    refine (idx_any _ _ _ _ i2.out).mono ?_
    rintro e w2 ⟨rfl, hb2⟩
    obtain ⟨hc2, hf2⟩ := bcell hb2
    have hz2 := hb2.size
    try simp at hz2
    dsimp only
    repeat (first | go_values | go_skip | go_guarded | go_step | go_upon)
    go_ret
    refine ⟨?_, (by repeat (first | exact Below.refl _ _ | assumption | refine bal ?_ _ | refine bdr ?_ | refine bdrn ?_ _ | (refine bset ?_ (by first | exact Nat.le_refl _ | (simp; done) | (simp; omega) | omega) _) | refine bstep ?_ (by assumption)))⟩
    rw [hs.out]
    exact ret_val (congrArg Value.string (enc_one b (by omega)))
  · have hs := Lib.hid (sgn_hex h n1 n2 n3 l)
    have i1 := Lib.hid (stand_no b hb n1 n2 n3)
    clear h n1 n2 n3
    have e1 : (b : Int) / 16 = ((b / 16 : Nat) : Int) := by omega
    have e2 : bits .and .u8 (b : Int) 15 = ((b % 16 : Nat) : Int) := and15 b hb
    have h1 := Lib.hid (hexd_at (b / 16) (by omega))
    have h2 := Lib.hid (hexd_at (b % 16) (by omega))
    have k1 : b / 16 < 16 := by omega
    have k2 : b % 16 < 16 := by omega
    generalize b / 16 = p at *
    generalize b % 16 = q at *
    rcases l with l | l
    · have d1 : decide ((b : Int) < 32) = true := by simp; omega
      go_enter Tryz.func123, Tryz.ntmps123
      repeat (first | go_values | go_skip | go_guarded | go_step | go_upon)
      refine (idx_any _ _ _ _ i1.out).mono ?_
      rintro e w1 ⟨rfl, hb1⟩
      obtain ⟨hc1, hf1⟩ := bcell hb1
      have hz1 := hb1.size
      try simp at hz1
      dsimp only
      repeat (first | go_values | go_skip | go_guarded | go_step | go_upon)
      go_region
      repeat (first | go_values | go_skip | go_guarded | go_step | go_upon)
      go_ret
      refine ⟨?_, (by repeat (first | exact Below.refl _ _ | assumption | refine bal ?_ _ | refine bdr ?_ | refine bdrn ?_ _ | (refine bset ?_ (by first | exact Nat.le_refl _ | (simp; done) | (simp; omega) | omega) _) | refine bstep ?_ (by assumption)))⟩
      rw [hs.out, h1.out, h2.out]
      rfl
    · have d1 : decide ((b : Int) < 32) = false := by simp; omega
      have d2 : decide ((126 : Int) < b) = true := by simp; omega
      go_enter Tryz.func123, Tryz.ntmps123
      repeat (first | go_values | go_skip | go_guarded | go_step | go_upon)
      refine (idx_any _ _ _ _ i1.out).mono ?_
      rintro e w1 ⟨rfl, hb1⟩
      obtain ⟨hc1, hf1⟩ := bcell hb1
      have hz1 := hb1.size
      try simp at hz1
      dsimp only
      repeat (first | go_values | go_skip | go_guarded | go_step | go_upon)
      go_region
      repeat (first | go_values | go_skip | go_guarded | go_step | go_upon)
      go_ret
      refine ⟨?_, (by repeat (first | exact Below.refl _ _ | assumption | refine bal ?_ _ | refine bdr ?_ | refine bdrn ?_ _ | (refine bset ?_ (by first | exact Nat.le_refl _ | (simp; done) | (simp; omega) | omega) _) | refine bstep ?_ (by assumption)))⟩
      rw [hs.out, h1.out, h2.out]
      rfl
end Go.Proofs.YtjlcoldnhbkcgaaGreatDoor
