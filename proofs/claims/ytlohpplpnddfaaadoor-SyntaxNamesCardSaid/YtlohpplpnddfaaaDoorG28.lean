/- The walk of the document's Has. | Walks of the document's answer for classes. | The walk of the document's Mix. | The walk of the document's Parse. -/
import Derived.Test.YtlohpplpnddfaaaDoorG2
import Derived.Test.YtlohpplpnddfaaaDoorG27
namespace Go.Proofs.YtlohpplpnddfaaaDoor
open Go.RowKit Go.Sort

theorem has_eq1 (c : BitVec 256) (x : Int) (h0 : 0 ≤ x) (h1 : x < 256) : (bits .and .u64 (wd c (x / 64).toNat / 2 ^ (x % 64).toNat) 1 == 1) = Has c x.toNat := by
  have h := has_wd c x h0 h1
  rw [← h]
  have e : bits .and .u64 (wd c (x / 64).toNat / 2 ^ (x % 64).toNat) 1 = 0 ∨ bits .and .u64 (wd c (x / 64).toNat / 2 ^ (x % 64).toNat) 1 = 1 := by
    have hn : 0 ≤ wd c (x / 64).toNat / 2 ^ (x % 64).toNat := Int.ediv_nonneg (wd_nonneg _ _) (by exact_mod_cast Nat.zero_le _)
    have hl : wd c (x / 64).toNat / 2 ^ (x % 64).toNat ≤ wd c (x / 64).toNat := Int.ediv_le_self _ (wd_nonneg _ _)
    have hlt := wd_lt c (x / 64).toNat
    rw [and_one_u64 _ hn (by omega)]
    omega
  rcases e with e | e <;> rw [e] <;> rfl
set_option maxHeartbeats 800000 in
theorem rhas_any (c : BitVec 256) (x : Int) (w : World) (h0 : 0 ≤ x) (h1 : x < 256) :
    Calls Tryd.prog 26 #[.agg #[.int .u64 (wd c 0), .int .u64 (wd c 1), .int .u64 (wd c 2), .int .u64 (wd c 3)], .int .i64 x] w (Ans (.bool (Has c x.toNat)) w) := by
  have hi := cl_get c (x/64).toNat (by omega)
  have HH := Lib.hid (has_eq1 c x h0 h1)
  go_enter Tryd.func26, Tryd.ntmps26
  repeat (first | go_values | go_skip | go_guarded | go_step | go_upon)
  go_ret
  exact ⟨ret_bool HH.out, (by repeat (first | exact Below.refl _ _ | assumption | refine bal ?_ _ | refine bdr ?_ | refine bdrn ?_ _ | (refine bset ?_ (by first | exact Nat.le_refl _ | (simp; done) | (simp; omega) | omega) _) | refine bstep ?_ (by assumption)))⟩
theorem rhas_nat (c : BitVec 256) (k : Nat) (w : World) (h1 : k < 256) : Calls Tryd.prog 26 #[.agg #[.int .u64 (wd c 0), .int .u64 (wd c 1), .int .u64 (wd c 2), .int .u64 (wd c 3)], .int .i64 k] w (Ans (.bool (Has c k)) w) := rhas_any c k w (by omega) (by omega)
theorem rhas_b (c : BitVec 256) (k : Nat) (b : Bool) (w : World) (h1 : k < 256) (hb : Has c k = b) : Calls Tryd.prog 26 #[.agg #[.int .u64 (wd c 0), .int .u64 (wd c 1), .int .u64 (wd c 2), .int .u64 (wd c 3)], .int .i64 k] w (Ans (.bool b) w) := by rw [← hb]; exact rhas_nat c k w h1
end Go.Proofs.YtlohpplpnddfaaaDoor
namespace Go.Proofs.YtlohpplpnddfaaaDoor
open Go.RowKit Go.Sort

theorem one_wd (n : Nat) (h : n < 256) : IntKind.u64.wrap (2 ^ (n % 64)) = wd (rng n n) (n / 64) := by
  have := wd_rng n n (n / 64) 63 (n % 64) (by omega) (by omega) (by omega) (Nat.le_refl _) (by omega) (by omega) (by omega)
  rw [← this]
  congr 1
  rw [show (18446744073709551615 : Int) / 2 ^ 63 = 1 by decide, Int.one_mul]
theorem or_zero_wd (c : BitVec 256) (j : Nat) : bits .or .u64 (wd c j) 0 = wd c j := by
  have := or_wd c 0#256 j
  rwa [wd_zero, BitVec.or_zero] at this
theorem with_same (c : BitVec 256) (n : Nat) (h : n < 256) : bits .or .u64 (wd c (n / 64)) (IntKind.u64.wrap (2 ^ (n % 64))) = wd (c ||| rng n n) (n / 64) := by
  rw [one_wd n h, or_wd]
theorem with_other (c : BitVec 256) (n j : Nat) (h : n < 256) (hj : j < 4) (hne : j ≠ n / 64) : wd (c ||| rng n n) j = wd c j := by
  rw [← or_wd, wd_rng_out n n j hj (by omega) (by omega), or_zero_wd]
set_option maxRecDepth 100000 in
set_option maxHeartbeats 1600000 in
theorem with_any (c : BitVec 256) (n : Nat) (w : World) (h1 : n < 256) :
    Calls Tryd.prog 52 #[.agg #[.int .u64 (wd c 0), .int .u64 (wd c 1), .int .u64 (wd c 2), .int .u64 (wd c 3)], .int .i64 n] w (Ans (.agg #[.int .u64 (wd (c ||| rng n n) 0), .int .u64 (wd (c ||| rng n n) 1), .int .u64 (wd (c ||| rng n n) 2), .int .u64 (wd (c ||| rng n n) 3)]) w) := by
  have hs := with_same c n h1
  have ho := fun j (hj : j < 4) (hne : j ≠ n / 64) => Lib.hid (with_other c n j h1 hj hne)
  have ex : ((n : Int) % 64).toNat = n % 64 := by omega
  have hq : n / 64 = 0 ∨ n / 64 = 1 ∨ n / 64 = 2 ∨ n / 64 = 3 := by omega
  rcases hq with hq | hq | hq | hq
  · have hq2 : (n : Int) / 64 = 0 := by omega
    rw [hq] at hs
    have o1 := ho 1 (by decide) (by omega)
    have o2 := ho 2 (by decide) (by omega)
    have o3 := ho 3 (by decide) (by omega)
    clear ho
    have HQ := Lib.hid hq
    clear hq
    go_enter Tryd.func52, Tryd.ntmps52
    repeat (first | go_values | go_skip | go_guarded | go_step | go_upon)
    go_region
    repeat (first | go_values | go_skip | go_guarded | go_step | go_upon)
    exact bodyPost_ret (v := .agg #[.int .u64 (wd (c ||| rng n n) 0), .int .u64 (wd (c ||| rng n n) 1), .int .u64 (wd (c ||| rng n n) 2), .int .u64 (wd (c ||| rng n n) 3)]) (by simp [results, Tryd.results52, go_sem, o1.out, o2.out, o3.out]) rfl ⟨rfl, (by repeat (first | exact Below.refl _ _ | assumption | refine bal ?_ _ | refine bdr ?_ | refine bdrn ?_ _ | (refine bset ?_ (by first | exact Nat.le_refl _ | (simp; done) | (simp; omega) | omega) _) | refine bstep ?_ (by assumption)))⟩
  · have hq2 : (n : Int) / 64 = 1 := by omega
    rw [hq] at hs
    have o0 := ho 0 (by decide) (by omega)
    have o2 := ho 2 (by decide) (by omega)
    have o3 := ho 3 (by decide) (by omega)
    clear ho
    have HQ := Lib.hid hq
    clear hq
    go_enter Tryd.func52, Tryd.ntmps52
    repeat (first | go_values | go_skip | go_guarded | go_step | go_upon)
    go_region
    repeat (first | go_values | go_skip | go_guarded | go_step | go_upon)
    exact bodyPost_ret (v := .agg #[.int .u64 (wd (c ||| rng n n) 0), .int .u64 (wd (c ||| rng n n) 1), .int .u64 (wd (c ||| rng n n) 2), .int .u64 (wd (c ||| rng n n) 3)]) (by simp [results, Tryd.results52, go_sem, o0.out, o2.out, o3.out]) rfl ⟨rfl, (by repeat (first | exact Below.refl _ _ | assumption | refine bal ?_ _ | refine bdr ?_ | refine bdrn ?_ _ | (refine bset ?_ (by first | exact Nat.le_refl _ | (simp; done) | (simp; omega) | omega) _) | refine bstep ?_ (by assumption)))⟩
  · have hq2 : (n : Int) / 64 = 2 := by omega
    rw [hq] at hs
    have o0 := ho 0 (by decide) (by omega)
    have o1 := ho 1 (by decide) (by omega)
    have o3 := ho 3 (by decide) (by omega)
    clear ho
    have HQ := Lib.hid hq
    clear hq
    go_enter Tryd.func52, Tryd.ntmps52
    repeat (first | go_values | go_skip | go_guarded | go_step | go_upon)
    go_region
    repeat (first | go_values | go_skip | go_guarded | go_step | go_upon)
    exact bodyPost_ret (v := .agg #[.int .u64 (wd (c ||| rng n n) 0), .int .u64 (wd (c ||| rng n n) 1), .int .u64 (wd (c ||| rng n n) 2), .int .u64 (wd (c ||| rng n n) 3)]) (by simp [results, Tryd.results52, go_sem, o0.out, o1.out, o3.out]) rfl ⟨rfl, (by repeat (first | exact Below.refl _ _ | assumption | refine bal ?_ _ | refine bdr ?_ | refine bdrn ?_ _ | (refine bset ?_ (by first | exact Nat.le_refl _ | (simp; done) | (simp; omega) | omega) _) | refine bstep ?_ (by assumption)))⟩
  · have hq2 : (n : Int) / 64 = 3 := by omega
    rw [hq] at hs
    have o0 := ho 0 (by decide) (by omega)
    have o1 := ho 1 (by decide) (by omega)
    have o2 := ho 2 (by decide) (by omega)
    clear ho
    have HQ := Lib.hid hq
    clear hq
    go_enter Tryd.func52, Tryd.ntmps52
    repeat (first | go_values | go_skip | go_guarded | go_step | go_upon)
    go_region
    repeat (first | go_values | go_skip | go_guarded | go_step | go_upon)
    exact bodyPost_ret (v := .agg #[.int .u64 (wd (c ||| rng n n) 0), .int .u64 (wd (c ||| rng n n) 1), .int .u64 (wd (c ||| rng n n) 2), .int .u64 (wd (c ||| rng n n) 3)]) (by simp [results, Tryd.results52, go_sem, o0.out, o1.out, o2.out]) rfl ⟨rfl, (by repeat (first | exact Below.refl _ _ | assumption | refine bal ?_ _ | refine bdr ?_ | refine bdrn ?_ _ | (refine bset ?_ (by first | exact Nat.le_refl _ | (simp; done) | (simp; omega) | omega) _) | refine bstep ?_ (by assumption)))⟩
set_option maxRecDepth 100000 in
set_option maxHeartbeats 1600000 in
theorem rcount_any (c : BitVec 256) (w : World) : Calls Tryd.prog 31 #[.agg #[.int .u64 (wd c 0), .int .u64 (wd c 1), .int .u64 (wd c 2), .int .u64 (wd c 3)]] w (Ans (.int .i64 (cnt c)) w) := by
  go_enter Tryd.func31, Tryd.ntmps31
  repeat (first | go_values | go_skip | go_guarded | go_step | go_upon)
  go_loopw [3, 4] (fun nn t wr => ∃ k : Nat, k ≤ 256 ∧ t = .int .i64 k ∧ nn = .int .i64 (cntTo c k : Nat) ∧ Below (w.alloc (.cells #[.int .u64 (wd c 0), .int .u64 (wd c 1), .int .u64 (wd c 2), .int .u64 (wd c 3)] 24)).heap.size (w.alloc (.cells #[.int .u64 (wd c 0), .int .u64 (wd c 1), .int .u64 (wd c 2), .int .u64 (wd c 3)] 24)) wr) (fun _ t _ => 256 - (intOf t).toNat)
  case atStart => exact ⟨0, by omega, rfl, rfl, Below.refl _ _⟩
  case round =>
    obtain ⟨k, hk, rfl, rfl, hb⟩ := hrel
    obtain ⟨hc, hf⟩ := bcell hb
    have hzr := hb.size
    simp at hzr
    have qr : w.heap.size < wr.heap.size := by omega
    have hle := cntTo_le c k
    by_cases hlt : k < 256
    · cases hh : Has c k
      all_goals
        have hst : cntTo c (k + 1) = cntTo c k + if Has c k then 1 else 0 := rfl
        rw [hh] at hst
        have HS := Lib.hid hst
        clear hst
        repeat (first | go_values | go_skip | go_guarded | go_step | go_upon)
        refine (rhas_b c k _ _ hlt hh).mono ?_
        rintro e w1 ⟨rfl, hb1⟩
        obtain ⟨hc1, hf1⟩ := bcell hb1
        have hz1 := hb1.size
        try simp at hz1
        have q1_0 : w.heap.size < w1.heap.size := by omega
        dsimp only
        repeat (first | go_values | go_skip | go_guarded | go_step | go_upon)
        exact ⟨⟨k + 1, by omega, by go_num, by rw [HS.out]; simp, (by repeat (first | exact Below.refl _ _ | assumption | refine bal ?_ _ | refine bdr ?_ | refine bdrn ?_ _ | (refine bset ?_ (by first | exact Nat.le_refl _ | (simp; done) | (simp; omega) | omega) _) | refine bstep ?_ (by assumption)))⟩, by simp [intOf]; omega⟩
    · obtain rfl : k = 256 := by omega
      repeat (first | go_values | go_skip | go_guarded | go_step | go_upon)
      go_ret
      exact ⟨rfl, (by repeat (first | exact Below.refl _ _ | assumption | refine bal ?_ _ | refine bdr ?_ | refine bdrn ?_ _ | (refine bset ?_ (by first | exact Nat.le_refl _ | (simp; done) | (simp; omega) | omega) _) | refine bstep ?_ (by assumption)))⟩
theorem or_rng (lo k : Nat) (h : lo ≤ k) (hk : k < 256) : (if k = lo then 0#256 else rng lo (k - 1)) ||| rng k k = rng lo k := by
  apply cl_ext
  intro j hj
  rw [has_or, has_rng _ _ _ hj (by omega), has_rng _ _ _ hj (by omega)]
  by_cases e : k = lo
  · rw [if_pos e]
    simp only [Has, BitVec.getLsbD_zero, Bool.false_or]
    subst e
    rfl
  · rw [if_neg e, has_rng _ _ _ hj (by omega)]
    rw [Bool.eq_iff_iff]
    simp
    omega
/-- The bytes from lo on below k. -/
def upto (lo k : Nat) : BitVec 256 := if k ≤ lo then 0#256 else rng lo (k - 1)
theorem upto_step (lo k : Nat) (h : lo ≤ k) (hk : k < 256) : upto lo k ||| rng k k = upto lo (k + 1) := by
  unfold upto
  rw [if_neg (by omega : ¬ k + 1 ≤ lo), Nat.add_sub_cancel, ← or_rng lo k h hk]
  by_cases e : k = lo
  · rw [if_pos (by omega), if_pos e]
  · rw [if_neg (by omega), if_neg e]
theorem set4' {w : World} {B : Nat} {a b c d a' b' c' d' : Value} {t : TypeId} (h : w.heap[B]? = some (.cells #[a, b, c, d] t (0, 0))) :
    ((((w.setCell ⟨B, 0, none⟩ a').setCell ⟨B, 1, none⟩ b').setCell ⟨B, 2, none⟩ c').setCell ⟨B, 3, none⟩ d').heap[B]? = some (.cells #[a', b', c', d'] t (0, 0)) :=
  heap_setCell_same _ B 3 _ _ _ (heap_setCell_same _ B 2 _ _ _ (heap_setCell_same _ B 1 _ _ _ (heap_setCell_same _ B 0 _ _ _ h)))
theorem cells_at' {w : World} {b : Nat} {cs : Array Value} {t : TypeId} (h : w.heap[b]? = some (.cells cs t (0, 0))) : (∀ j, w.cell? ⟨b, j, none⟩ = cs[j]?) ∧ (∀ j, w.frozen? ⟨b, j, none⟩ = false) ∧ b < w.heap.size :=
  ⟨fun j => by simp [World.cell?, h], fun j => frozen_of_row w b j cs t h, (Array.getElem?_eq_some_iff.1 h).1⟩
set_option maxRecDepth 100000 in
set_option maxHeartbeats 1600000 in
theorem rrange_yes (lo hi : Nat) (w : World) (h0 : lo ≤ hi) (h1 : hi ≤ 255) :
    Calls Tryd.prog 25 #[.int .i64 lo, .int .i64 hi] w (Ans (.tuple #[.agg #[.int .u64 (wd (rng lo hi) 0), .int .u64 (wd (rng lo hi) 1), .int .u64 (wd (rng lo hi) 2), .int .u64 (wd (rng lo hi) 3)], .int .i64 0]) w) := by
  have d1 : decide ((lo : Int) < 0) = false := by simp
  have d2 : decide ((255 : Int) < hi) = false := by simp; omega
  have d3 : decide ((hi : Int) < lo) = false := by simp; omega
  have hz := wd_zero
  go_enter Tryd.func25, Tryd.ntmps25
  repeat (first | go_values | go_skip | go_guarded | go_step | go_upon)
  go_loopw [7] (fun t wr => ∃ k : Nat, lo ≤ k ∧ k ≤ hi + 1 ∧ t = .int .i64 k ∧ wr.heap[w.heap.size + 1]? = some (.cells #[.int .u64 (wd (upto lo k) 0), .int .u64 (wd (upto lo k) 1), .int .u64 (wd (upto lo k) 2), .int .u64 (wd (upto lo k) 3)] 24 (0, 0)) ∧ Below (w.heap.size + 1) (w.alloc (.cells #[.int .u64 0, .int .u64 0, .int .u64 0, .int .u64 0] 24)) wr) (fun t _ => 256 - (intOf t).toNat)
  case atStart =>
    refine ⟨lo, Nat.le_refl _, by omega, rfl, ?_, ?_⟩
    · rw [show upto lo lo = 0#256 from if_pos (Nat.le_refl _)]
      simp only [wd_zero]
      rw [show w.heap.size + 1 = (w.alloc (.cells #[.int .u64 0, .int .u64 0, .int .u64 0, .int .u64 0] 24)).heap.size by simp]
      exact heap_alloc_new _ _
    · exact (Below.refl _ _).alloc (by simp) _
  case round =>
    obtain ⟨k, hlk, hk, rfl, hbox, hb⟩ := hrel
    obtain ⟨cb, fb, zb⟩ := cells_at' hbox
    have c0 : ∀ j, wr.cell? ⟨w.heap.size, j, none⟩ = (#[.int .u64 0, .int .u64 0, .int .u64 0, .int .u64 0] : Array Value)[j]? := fun j => (hb.cell (p := ⟨w.heap.size, j, none⟩) (by simp)).trans (by simp)
    have f0 : ∀ j, wr.frozen? ⟨w.heap.size, j, none⟩ = false := fun j => (hb.frozen (p := ⟨w.heap.size, j, none⟩) (by simp)).trans (by simp)
    have qr : w.heap.size < wr.heap.size := by omega
    by_cases hlt : k ≤ hi
    · have hst := Lib.hid (upto_step lo k hlk (by omega))
      repeat (first | go_values | go_skip | go_guarded | go_step | go_upon)
      refine (with_any (upto lo k) k _ (by omega)).mono ?_
      rintro e w1 ⟨rfl, hb1⟩
      obtain ⟨hc1, hf1⟩ := bcell hb1
      have hz1 := hb1.size
      try simp at hz1
      have q1_0 : w.heap.size < w1.heap.size := by omega
      have q1_1 : w.heap.size + 1 < w1.heap.size := by omega
      dsimp only
      have hbox1 := (hb1.block _ zb).trans hbox
      obtain ⟨cb1, fb1, zb1⟩ := cells_at' hbox1
      repeat (first | go_values | go_skip | go_guarded | go_step | go_upon)
      refine ⟨⟨k + 1, by omega, by omega, by go_num, ?_, ?_⟩, by simp [intOf]; omega⟩
      · rw [← hst.out]; exact set4' hbox1
      · exact ((((hb.trans (hb1.mono (by omega))).setCell (by simp) _).setCell (by simp) _).setCell (by simp) _).setCell (by simp) _
    · obtain rfl : k = hi + 1 := by omega
      have hu : upto lo (hi + 1) = rng lo hi := by unfold upto; rw [if_neg (by omega), Nat.add_sub_cancel]
      rw [hu] at cb
      clear hu hbox
      repeat (first | go_values | go_skip | go_guarded | go_step | go_upon)
      refine bodyPost_ret (v := .tuple #[.agg #[.int .u64 (wd (rng lo hi) 0), .int .u64 (wd (rng lo hi) 1), .int .u64 (wd (rng lo hi) 2), .int .u64 (wd (rng lo hi) 3)], .int .i64 0]) (by simp [results, Tryd.results25, go_sem, c0]) rfl ⟨rfl, ?_⟩
      have hb2 : Below w.heap.size w wr := (((Below.refl _ _).alloc (Nat.le_refl _) _).trans (hb.mono (by omega)))
      exact (((hb2.setCell (by simp) _).setCell (by simp) _).setCell (by simp) _).setCell (by simp) _
set_option maxRecDepth 100000 in
set_option maxHeartbeats 1600000 in
theorem rrange_no (lo hi : Int) (w : World) (h : lo < 0 ∨ 255 < hi ∨ hi < lo) :
    Calls Tryd.prog 25 #[.int .i64 lo, .int .i64 hi] w (Ans (.tuple #[.agg #[.int .u64 (wd (0#256) 0), .int .u64 (wd (0#256) 1), .int .u64 (wd (0#256) 2), .int .u64 (wd (0#256) 3)], .int .i64 1]) w) := by
  have hz := wd_zero
  have hd : (decide (lo < 0) = true) ∨ (decide (lo < 0) = false ∧ decide (255 < hi) = true) ∨ (decide (lo < 0) = false ∧ decide (255 < hi) = false ∧ decide (hi < lo) = true) := by
    simp only [decide_eq_true_eq, decide_eq_false_iff_not]; omega
  clear h
  rcases hd with d1 | ⟨d1, d2⟩ | ⟨d1, d2, d3⟩
  all_goals
    go_enter Tryd.func25, Tryd.ntmps25
    repeat (first | go_values | go_skip | go_guarded | go_step | go_upon)
    exact bodyPost_ret (v := .tuple #[.agg #[.int .u64 (wd (0#256) 0), .int .u64 (wd (0#256) 1), .int .u64 (wd (0#256) 2), .int .u64 (wd (0#256) 3)], .int .i64 1]) (by simp [results, Tryd.results25, go_sem, hz]) rfl ⟨rfl, (by repeat (first | exact Below.refl _ _ | assumption | refine bal ?_ _ | refine bdr ?_ | refine bdrn ?_ _ | (refine bset ?_ (by first | exact Nat.le_refl _ | (simp; done) | (simp; omega) | omega) _) | refine bstep ?_ (by assumption)))⟩
/-- What Mix makes of two classes. -/
def mixed (kind : Int) (c d : BitVec 256) : BitVec 256 := if kind = 0 then c &&& d else if kind = 1 then c ||| d else ~~~c
/-- The bytes below k of a class. -/
def below (c : BitVec 256) (k : Nat) : BitVec 256 := if k = 0 then 0#256 else c &&& rng 0 (k - 1)
theorem has_below (c : BitVec 256) (k j : Nat) (hk : k ≤ 256) (hj : j < 256) : Has (below c k) j = (Has c j && decide (j < k)) := by
  unfold below
  by_cases h : k = 0
  · rw [if_pos h]; simp [Has, h]
  · rw [if_neg h, has_and, has_rng _ _ _ hj (by omega)]
    congr 1
    simp
    omega
theorem below_yes (c : BitVec 256) (k : Nat) (hk : k < 256) (h : Has c k = true) : below c k ||| rng k k = below c (k + 1) := by
  apply cl_ext
  intro j hj
  rw [has_or, has_below _ _ _ (by omega) hj, has_below _ _ _ (by omega) hj, has_rng _ _ _ hj (by omega)]
  rw [Bool.eq_iff_iff]
  simp only [Bool.or_eq_true, Bool.and_eq_true, decide_eq_true_eq]
  constructor
  · rintro (⟨a, b⟩ | ⟨a, b⟩)
    · exact ⟨a, by omega⟩
    · obtain rfl : j = k := by omega
      exact ⟨h, by omega⟩
  · rintro ⟨a, b⟩
    by_cases e : j = k
    · right; omega
    · left; exact ⟨a, by omega⟩
theorem below_no (c : BitVec 256) (k : Nat) (hk : k < 256) (h : Has c k = false) : below c k = below c (k + 1) := by
  apply cl_ext
  intro j hj
  rw [has_below _ _ _ (by omega) hj, has_below _ _ _ (by omega) hj]
  by_cases e : j = k
  · subst e; rw [h]; rfl
  · congr 1
    apply decide_eq_decide.2
    omega
theorem below_all (c : BitVec 256) : below c 256 = c := by
  apply cl_ext
  intro j hj
  rw [has_below _ _ _ (by omega) hj]
  simp [hj]
theorem has_mixed (kind : Int) (c d : BitVec 256) (k : Nat) (hk : k < 256) : Has (mixed kind c d) k = if kind = 0 then Has c k && Has d k else if kind = 1 then Has c k || Has d k else !Has c k := by
  unfold mixed
  split
  · rw [has_and]
  · split
    · rw [has_or]
    · rw [has_not _ _ hk]
end Go.Proofs.YtlohpplpnddfaaaDoor
namespace Go.Proofs.YtlohpplpnddfaaaDoor
open Go.RowKit Go.Sort
set_option maxRecDepth 100000 in
set_option maxHeartbeats 6400000 in
theorem mix_any (kind : Int) (c d : BitVec 256) (w : World) (hkind : kind = 0 ∨ kind = 1 ∨ kind = 2) :
    Calls Tryd.prog 28 #[.int .i64 kind, .agg #[.int .u64 (wd c 0), .int .u64 (wd c 1), .int .u64 (wd c 2), .int .u64 (wd c 3)], .agg #[.int .u64 (wd d 0), .int .u64 (wd d 1), .int .u64 (wd d 2), .int .u64 (wd d 3)]] w (Ans (.agg #[.int .u64 (wd (mixed kind c d) 0), .int .u64 (wd (mixed kind c d) 1), .int .u64 (wd (mixed kind c d) 2), .int .u64 (wd (mixed kind c d) 3)]) w) := by
  have hm := Lib.hid (has_mixed kind c d)
  have hall := Lib.hid (below_all (mixed kind c d))
  generalize hmm : mixed kind c d = m at *
  have hyes := fun k hk h => Lib.hid (below_yes m k hk h)
  have hno := fun k hk h => Lib.hid (below_no m k hk h)
  clear hmm
  go_enter Tryd.func28, Tryd.ntmps28
  repeat (first | go_values | go_skip | go_guarded | go_step | go_upon)
  go_loopw [8] (fun t wr => ∃ k : Nat, k ≤ 256 ∧ t = .int .i64 k ∧ wr.heap[w.heap.size + 1 + 1 + 1]? = some (.cells #[.int .u64 (wd (below m k) 0), .int .u64 (wd (below m k) 1), .int .u64 (wd (below m k) 2), .int .u64 (wd (below m k) 3)] 24 (0, 0)) ∧ Below (w.heap.size + 1 + 1 + 1) (((w.alloc (.cells #[.int .u64 (wd c 0), .int .u64 (wd c 1), .int .u64 (wd c 2), .int .u64 (wd c 3)] 24)).alloc (.cells #[.int .u64 (wd d 0), .int .u64 (wd d 1), .int .u64 (wd d 2), .int .u64 (wd d 3)] 24)).alloc (.cells #[.int .u64 0, .int .u64 0, .int .u64 0, .int .u64 0] 24)) wr) (fun t _ => 256 - (intOf t).toNat)
  case atStart =>
    refine ⟨0, by omega, rfl, ?_, ?_⟩
    · rw [show below m 0 = 0#256 from if_pos rfl]
      simp only [wd_zero]
      rw [show w.heap.size + 1 + 1 + 1 = (((w.alloc (.cells #[.int .u64 (wd c 0), .int .u64 (wd c 1), .int .u64 (wd c 2), .int .u64 (wd c 3)] 24)).alloc (.cells #[.int .u64 (wd d 0), .int .u64 (wd d 1), .int .u64 (wd d 2), .int .u64 (wd d 3)] 24)).alloc (.cells #[.int .u64 0, .int .u64 0, .int .u64 0, .int .u64 0] 24)).heap.size by simp]
      exact heap_alloc_new _ _
    · exact (Below.refl _ _).alloc (by simp <;> omega) _
  case round =>
    obtain ⟨k, hk, rfl, hbox, hb⟩ := hrel
    obtain ⟨cb, fb, zb⟩ := cells_at' hbox
    have c0 : ∀ j, wr.cell? ⟨w.heap.size, j, none⟩ = (#[.int .u64 (wd c 0), .int .u64 (wd c 1), .int .u64 (wd c 2), .int .u64 (wd c 3)] : Array Value)[j]? := fun j => (hb.cell (p := ⟨w.heap.size, j, none⟩) (by simp <;> omega)).trans (by go_simp)
    have c1 : ∀ j, wr.cell? ⟨w.heap.size + 1, j, none⟩ = (#[.int .u64 (wd d 0), .int .u64 (wd d 1), .int .u64 (wd d 2), .int .u64 (wd d 3)] : Array Value)[j]? := fun j => (hb.cell (p := ⟨w.heap.size + 1, j, none⟩) (by simp <;> omega)).trans (by go_simp)
    have c2 : ∀ j, wr.cell? ⟨w.heap.size + 1 + 1, j, none⟩ = (#[.int .u64 0, .int .u64 0, .int .u64 0, .int .u64 0] : Array Value)[j]? := fun j => (hb.cell (p := ⟨w.heap.size + 1 + 1, j, none⟩) (by simp <;> omega)).trans (by go_simp)
    have f2 : ∀ j, wr.frozen? ⟨w.heap.size + 1 + 1, j, none⟩ = false := fun j => (hb.frozen (p := ⟨w.heap.size + 1 + 1, j, none⟩) (by simp <;> omega)).trans (by go_simp)
    have qr : w.heap.size < wr.heap.size := by omega
    have qr1 : w.heap.size + 1 < wr.heap.size := by omega
    have qr2 : w.heap.size + 1 + 1 < wr.heap.size := by omega
    by_cases hlt : k < 256
    · have hmk := hm.out k hlt
      clear hm hall
      rcases hkind with rfl | rfl | rfl
      all_goals
        cases h1 : Has c k
        all_goals
          cases h2 : Has d k
          all_goals
            rw [h1, h2] at hmk
            simp at hmk
            have HM := Lib.hid hmk
            clear hmk
            repeat (first | go_values | go_skip | go_guarded | go_step | go_upon)
            refine (rhas_b c k _ _ hlt h1).mono ?_
            rintro e w1 ⟨rfl, hb1⟩
            obtain ⟨hc1, hf1⟩ := bcell hb1
            have hz1 := hb1.size
            try simp at hz1
            have q1_0 : w.heap.size < w1.heap.size := by omega
            have q1_1 : w.heap.size + 1 < w1.heap.size := by omega
            have q1_2 : w.heap.size + 1 + 1 + 1 < w1.heap.size := by omega
            dsimp only
            repeat (first | go_values | go_skip | go_guarded | go_step | go_upon)
            refine (rhas_b d k _ _ hlt h2).mono ?_
            rintro e w2 ⟨rfl, hb2⟩
            obtain ⟨hc2, hf2⟩ := bcell hb2
            have hz2 := hb2.size
            try simp at hz2
            have q2_0 : w.heap.size < w2.heap.size := by omega
            have q2_1 : w.heap.size + 1 < w2.heap.size := by omega
            have q2_2 : w.heap.size + 1 + 1 + 1 < w2.heap.size := by omega
            dsimp only
            have hb2' : Below wr.heap.size wr w2 := bstep (bstep (Below.refl _ _) hb1) hb2
            have hbox2 := (hb2'.block _ zb).trans hbox
            obtain ⟨cb2, fb2, zb2⟩ := cells_at' hbox2
            first
              | (have hst := hyes k hlt HM.out
                 clear hyes hno
                 repeat (first | go_values | go_skip | go_guarded | go_step | go_upon)
                 refine (with_any (below m k) k _ hlt).mono ?_
                 rintro e w3 ⟨rfl, hb3⟩
                 obtain ⟨hc3, hf3⟩ := bcell hb3
                 have hz3 := hb3.size
                 try simp at hz3
                 have q3_0 : w.heap.size < w3.heap.size := by omega
                 have q3_1 : w.heap.size + 1 < w3.heap.size := by omega
                 have q3_2 : w.heap.size + 1 + 1 + 1 < w3.heap.size := by omega
                 dsimp only
                 have hb3' : Below wr.heap.size wr w3 := bstep hb2' hb3
                 have hbox3 := (hb3'.block _ zb).trans hbox
                 obtain ⟨cb3, fb3, zb3⟩ := cells_at' hbox3
                 repeat (first | go_values | go_skip | go_guarded | go_step | go_upon)
                 refine ⟨⟨k + 1, by omega, by go_num, ?_, ?_⟩, by simp [intOf]; omega⟩
                 · rw [← hst.out]; exact set4' hbox3
                 · exact ((((hb.trans (hb3'.mono (by omega))).setCell (by simp <;> omega) _).setCell (by simp <;> omega) _).setCell (by simp <;> omega) _).setCell (by simp <;> omega) _)
              | (have hst := hno k hlt HM.out
                 clear hyes hno
                 repeat (first | go_values | go_skip | go_guarded | go_step | go_upon)
                 refine ⟨⟨k + 1, by omega, by go_num, ?_, ?_⟩, by simp [intOf]; omega⟩
                 · rw [← hst.out]; exact hbox2
                 · exact hb.trans (hb2'.mono (by omega)))
    · obtain rfl : k = 256 := by omega
      have hu := hall.out
      rw [hu] at cb
      clear hu hbox hm hall hyes hno
      repeat (first | go_values | go_skip | go_guarded | go_step | go_upon)
      refine bodyPost_ret (v := .agg #[.int .u64 (wd m 0), .int .u64 (wd m 1), .int .u64 (wd m 2), .int .u64 (wd m 3)]) (by simp [results, Tryd.results28, go_sem, c2]) rfl ⟨rfl, ?_⟩
      have hb2 : Below w.heap.size w wr := (((((Below.refl _ _).alloc (Nat.le_refl _) _).alloc (by simp <;> omega) _).alloc (by simp; omega) _).trans (hb.mono (by omega)))
      exact (((hb2.setCell (by simp <;> omega) _).setCell (by simp <;> omega) _).setCell (by simp <;> omega) _).setCell (by simp <;> omega) _
end Go.Proofs.YtlohpplpnddfaaaDoor
namespace Go.Proofs.YtlohpplpnddfaaaDoor
open Go.RowKit Go.Sort

/-- What the document's Parse answers. -/
def gotC : Got (BitVec 256) → Value
  | .inr (c, n) => .tuple #[.agg #[.int .u64 (wd c 0), .int .u64 (wd c 1), .int .u64 (wd c 2), .int .u64 (wd c 3)], .int .i64 (n : Int), .int .i64 0]
  | .inl (e, n) => .tuple #[.agg #[.int .u64 0, .int .u64 0, .int .u64 0, .int .u64 0], .int .i64 (n : Int), .int .i64 (e : Int)]
theorem refsign_ok (S : ByteArray) (x : Int) (a : Nat) (w : World) (hs : S.size ≤ 140737488355328) (hx : x = a) (hz : a ≤ 140737488355328) {c n : Nat} (hg : sgnAt (bl S) a = .inr (c, n)) :
    Calls Tryd.prog 56 #[.string S, .int .i64 x] w (Ans (.tuple #[.int .i64 (c : Int), .int .i64 (n : Int), .int .i64 0]) w) := by
  subst hx
  have := refsign_any S a w hs hz
  rw [hg] at this
  exact this
theorem refsign_no (S : ByteArray) (x : Int) (a : Nat) (w : World) (hs : S.size ≤ 140737488355328) (hx : x = a) (hz : a ≤ 140737488355328) {e n : Nat} (hg : sgnAt (bl S) a = .inl (e, n)) :
    Calls Tryd.prog 56 #[.string S, .int .i64 x] w (Ans (.tuple #[.int .i64 0, .int .i64 (n : Int), .int .i64 (e : Int)]) w) := by
  subst hx
  have := refsign_any S a w hs hz
  rw [hg] at this
  exact this
theorem wrongAt_code (s : List UInt8) (a : Nat) : (wrongAt s a).1 = 3 ∨ (wrongAt s a).1 = 4 := by
  unfold wrongAt; split <;> simp
theorem lowAt_code {s : List UInt8} {h a e n : Nat} (hg : lowAt s h a = .inl (e, n)) : e = 3 ∨ e = 4 := by
  unfold lowAt at hg
  split at hg
  · have := wrongAt_code s a; simp at hg; rw [hg] at this; exact this
  · cases hg
theorem hexAt_code {s : List UInt8} {a e n : Nat} (hg : hexAt s a = .inl (e, n)) : e = 3 ∨ e = 4 := by
  unfold hexAt at hg
  split at hg
  · have := wrongAt_code s a; simp at hg; rw [hg] at this; exact this
  · exact lowAt_code hg
theorem escAt_code {s : List UInt8} {a e n : Nat} (hg : escAt s a = .inl (e, n)) : e = 3 ∨ e = 4 := by
  unfold escAt at hg
  split at hg
  · cases hg
  split at hg
  · cases hg
  split at hg
  · cases hg
  split at hg
  · cases hg
  split at hg
  · exact hexAt_code hg
  · have := wrongAt_code s a; simp at hg; rw [hg] at this; exact this
theorem sgnAt_code {s : List UInt8} {a e n : Nat} (hg : sgnAt s a = .inl (e, n)) : e = 3 ∨ e = 4 := by
  unfold sgnAt at hg
  split at hg
  · exact escAt_code hg
  split at hg
  · have := wrongAt_code s a; simp at hg; rw [hg] at this; exact this
  · cases hg
/-- The two blocks of the call: what is answered, the class so far. -/
structure Y (c : BitVec 256) (w w' : World) : Prop where
  res : w'.heap[w.heap.size]? = some (.cells #[.int .u64 0, .int .u64 0, .int .u64 0, .int .u64 0] 24 (0, 0))
  cls : w'.heap[w.heap.size + 1]? = some (.cells #[.int .u64 (wd c 0), .int .u64 (wd c 1), .int .u64 (wd c 2), .int .u64 (wd c 3)] 24 (0, 0))
  bel : Below w.heap.size w w'
theorem y_start (w : World) : Y 0#256 w ((w.alloc (.cells #[.int .u64 0, .int .u64 0, .int .u64 0, .int .u64 0] 24)).alloc (.cells #[.int .u64 0, .int .u64 0, .int .u64 0, .int .u64 0] 24)) := by
  refine ⟨?_, ?_, ((Below.refl _ _).alloc (Nat.le_refl _) _).alloc (by simp) _⟩
  · rw [RowKit.Below.heap_alloc _ _ _ (by simp), heap_alloc_new]
  · have := heap_alloc_new (w.alloc (.cells #[.int .u64 0, .int .u64 0, .int .u64 0, .int .u64 0] 24)) (.cells #[.int .u64 0, .int .u64 0, .int .u64 0, .int .u64 0] 24)
    simp only [World.size_alloc, wd_zero] at this ⊢
    exact this
theorem Y.lt {c : BitVec 256} {w w' : World} (h : Y c w w') : w.heap.size + 1 < w'.heap.size := (Array.getElem?_eq_some_iff.1 h.cls).1
theorem Y.below {c : BitVec 256} {w w1 w2 : World} (h : Y c w w1) (hb : Below w1.heap.size w1 w2) : Y c w w2 :=
  ⟨(hb.block _ (by have := h.lt; omega)).trans h.res, (hb.block _ (by have := h.lt; omega)).trans h.cls, below_step h.bel h.bel.size hb⟩
theorem Y.cset {c : BitVec 256} (d : BitVec 256) {w w1 : World} (h : Y c w w1) : Y d w ((((w1.setCell ⟨w.heap.size + 1, 0, none⟩ (.int .u64 (wd d 0))).setCell ⟨w.heap.size + 1, 1, none⟩ (.int .u64 (wd d 1))).setCell ⟨w.heap.size + 1, 2, none⟩ (.int .u64 (wd d 2))).setCell ⟨w.heap.size + 1, 3, none⟩ (.int .u64 (wd d 3))) := by
  have o : ∀ (w2 : World) (k j : Nat) (v : Value), k ≠ w.heap.size + 1 → (w2.setCell ⟨w.heap.size + 1, j, none⟩ v).heap[k]? = w2.heap[k]? := fun w2 k j v hk => heap_setCell_other w2 ⟨w.heap.size + 1, j, none⟩ k v hk
  refine ⟨?_, set4' h.cls, (((h.bel.setCell (by simp) _).setCell (by simp) _).setCell (by simp) _).setCell (by simp) _⟩
  rw [o _ _ _ _ (by omega), o _ _ _ _ (by omega), o _ _ _ _ (by omega), o _ _ _ _ (by omega)]; exact h.res
theorem rbel4 {w w1 : World} (h : Below w.heap.size w w1) (a b c d : Value) : Below w.heap.size w ((((w1.setCell ⟨w.heap.size, 0, none⟩ a).setCell ⟨w.heap.size, 1, none⟩ b).setCell ⟨w.heap.size, 2, none⟩ c).setCell ⟨w.heap.size, 3, none⟩ d) :=
  (((h.setCell (Nat.le_refl _) _).setCell (Nat.le_refl _) _).setCell (Nat.le_refl _) _).setCell (Nat.le_refl _) _
theorem or_upto (c : BitVec 256) (lo k : Nat) (h : lo ≤ k) (hk : k < 256) : c ||| upto lo k ||| rng k k = c ||| upto lo (k + 1) := by
  rw [BitVec.or_assoc, upto_step lo k h hk]
theorem or_upto0 (c : BitVec 256) (lo : Nat) : c ||| upto lo lo = c := by rw [upto, if_pos (Nat.le_refl _), BitVec.or_zero]
theorem upto_all (lo hi : Nat) (h : lo ≤ hi) : upto lo (hi + 1) = rng lo hi := by rw [upto, if_neg (by omega), Nat.add_sub_cancel]
theorem with_int (c : BitVec 256) (n : Nat) (w : World) (h1 : n < 256) : Calls Tryd.prog 52 #[.agg #[.int .u64 (wd c 0), .int .u64 (wd c 1), .int .u64 (wd c 2), .int .u64 (wd c 3)], .int .i64 (n : Int)] w (Ans (.agg #[.int .u64 (wd (c ||| rng n n) 0), .int .u64 (wd (c ||| rng n n) 1), .int .u64 (wd (c ||| rng n n) 2), .int .u64 (wd (c ||| rng n n) 3)]) w) := with_any c n w h1
set_option maxRecDepth 100000 in
set_option maxHeartbeats 1600000 in
theorem refpar_empty (S : ByteArray) (w : World) (hs : S.size = 0) : Calls Tryd.prog 33 #[.string S] w (Ans (gotC (parsed (bl S))) w) := by
  have HO := Lib.hid (show parsed (bl S) = .inl (3, 0) by rw [parsed, byteAt_bge (by omega), if_neg (by decide), wrongAt_bout (by omega), hs])
  rw [HO.out]
  go_enter Tryd.func33, Tryd.ntmps33
  repeat (first | go_values | go_skip | go_guarded | go_step | go_upon)
  exact bodyPost_ret (v := gotC (.inl (3, 0))) (by simp [gotC, results, Tryd.results33, go_sem]) rfl ⟨rfl, (by repeat (first | exact Below.refl _ _ | assumption | refine bal ?_ _ | refine bdr ?_ | refine bdrn ?_ _ | (refine bset ?_ (by first | exact Nat.le_refl _ | (simp; done) | (simp; omega) | omega) _) | refine bstep ?_ (by assumption)))⟩
set_option maxRecDepth 100000 in
set_option maxHeartbeats 1600000 in
theorem refpar_no (S : ByteArray) (w : World) (hs : S.size ≤ 140737488355328) (h0 : 0 < S.size) (hb : byteAt (bl S) 0 ≠ 91) : Calls Tryd.prog 33 #[.string S] w (Ans (gotC (parsed (bl S))) w) := by
  have HO := Lib.hid (show parsed (bl S) = .inl (4, 0) by rw [parsed, if_neg hb, wrongAt_bin h0])
  rw [HO.out]
  have hv := byteAt_ba h0
  have m1 : ((S[0].toNat : Int) == 91) = false := by rw [← hv]; simp; omega
  have m2 : ((S[0].toNat : Int) != 91) = true := by rw [← hv]; simp; omega
  have d0 : ((S.size : Int) == 0) = false := by rw [beq_eq_false_iff_ne]; omega
  clear hv hb
  go_enter Tryd.func33, Tryd.ntmps33
  repeat (first | go_values | go_skip | go_guarded | go_step | go_upon)
  exact bodyPost_ret (v := gotC (.inl (4, 0))) (by simp [gotC, results, Tryd.results33, go_sem]) rfl ⟨rfl, (by repeat (first | exact Below.refl _ _ | assumption | refine bal ?_ _ | refine bdr ?_ | refine bdrn ?_ _ | (refine bset ?_ (by first | exact Nat.le_refl _ | (simp; done) | (simp; omega) | omega) _) | refine bstep ?_ (by assumption)))⟩
/-- What comes of the members. -/
def doneR (nt : Bool) (g : Got (BitVec 256)) : Got (BitVec 256) := match g with
  | .inl e => .inl e
  | .inr (c, n) => .inr (if nt then ~~~c else c, n)
theorem rmems_one {s : List UInt8} {f a : Nat} {c : BitVec 256} (h : byteAt s a = 93) : memsAt s (f + 1) a c = .inr (c, a + 1) := by rw [memsAt, if_pos h]
theorem rmems_bad {s : List UInt8} {f a : Nat} {c : BitVec 256} {er : Nat × Nat} (h : byteAt s a ≠ 93) (hm : memAt s a = .inl er) : memsAt s (f + 1) a c = .inl er := by rw [memsAt, if_neg h, hm]
theorem rmems_on {s : List UInt8} {f a n : Nat} {c m : BitVec 256} (h : byteAt s a ≠ 93) (hm : memAt s a = .inr (m, n)) : memsAt s (f + 1) a c = memsAt s f n (c ||| m) := by rw [memsAt, if_neg h, hm]
theorem rsgn_inl {s : List UInt8} {a : Nat} {er : Nat × Nat} (h : sgnAt s a = .inl er) : memAt s a = .inl er := by unfold memAt; rw [h]
theorem rsgn_hi {s : List UInt8} {a lo n : Nat} (h : sgnAt s a = .inr (lo, n)) : memAt s a = match hiAt s lo n with
    | .inl e => .inl e
    | .inr (hi, m) => if hi < lo then .inl (4, a) else .inr (rng lo hi, m) := by
  unfold memAt
  rw [h]
  rfl
theorem mix_as {c d : BitVec 256} (h : d = ~~~c) (w : World) : Calls Tryd.prog 28 #[.int .i64 2, .agg #[.int .u64 (wd c 0), .int .u64 (wd c 1), .int .u64 (wd c 2), .int .u64 (wd c 3)], .agg #[.int .u64 (wd c 0), .int .u64 (wd c 1), .int .u64 (wd c 2), .int .u64 (wd c 3)]] w (Ans (.agg #[.int .u64 (wd d 0), .int .u64 (wd d 1), .int .u64 (wd d 2), .int .u64 (wd d 3)]) w) := by
  have := mix_any 2 c c w (.inr (.inr rfl))
  rw [show mixed 2 c c = ~~~c from rfl] at this
  subst h
  exact this
set_option maxRecDepth 100000 in
set_option maxHeartbeats 6400000 in
theorem refpar_n (S : ByteArray) (w : World) (hs : S.size ≤ 140737488355328) (h0 : 0 < S.size) (hb : byteAt (bl S) 0 = 91) (h1 : 1 < S.size) (hn : byteAt (bl S) 1 ≠ 94) : Calls Tryd.prog 33 #[.string S] w (Ans (gotC (parsed (bl S))) w) := by
  have hlen := bl_length S
  have HG := Lib.hid (show parsed (bl S) = doneR false (memsAt (bl S) ((bl S).length + 1) 1 0) by
    rw [parsed, if_pos hb, if_neg hn]
    cases memsAt (bl S) ((bl S).length + 1) 1 0 <;> rfl)
  have hv := byteAt_ba h0
  have m1 : ((S[0].toNat : Int) == 91) = true := by rw [← hv]; simp; omega
  have m2 : ((S[0].toNat : Int) != 91) = false := by rw [← hv]; simp; omega
  have d0 : ((S.size : Int) == 0) = false := by rw [beq_eq_false_iff_ne]; omega
  have hv1 := byteAt_ba h1
  have d1 : decide ((1 : Int) < S.size) = true := by simp; omega
  have d4 : (1 : Int) < S.size := by omega
  have m3 : ((S[1].toNat : Int) == 94) = false := by rw [← hv1]; simp; omega
  clear hv hb hv1 hn
  have y0 := y_start w
  generalize hM : memsAt (bl S) ((bl S).length + 1) 1 0 = G at HG
  have HM := Lib.hid hM
  clear hM
  go_enter Tryd.func33, Tryd.ntmps33
  repeat (first | go_values | go_skip | go_guarded | go_step | go_upon)
  go_loopw [6] (fun t wr => ∃ (f a : Nat) (c : BitVec 256), t = .int .i64 (a : Int) ∧ Y c w wr ∧ Hid (memsAt (bl S) f a c = G) ∧ (bl S).length < f + a ∧ a ≤ S.size) (fun t _ => S.size - (intOf t).toNat)
  case atStart => exact ⟨_, 1, 0, rfl, y0, HM, by omega, by omega⟩
  case round =>
    obtain ⟨f, a, c, rfl, y, hG, hf, ha⟩ := hrel
    obtain ⟨f, rfl⟩ : ∃ g, f = g + 1 := ⟨f - 1, by omega⟩
    obtain ⟨cA, fA, zA⟩ := cells_at' y.res
    obtain ⟨cB, fB, zB⟩ := cells_at' y.cls
    by_cases h93 : byteAt (bl S) a = 93
    · have HX := Lib.hid (show G = .inr (c, a + 1) by rw [← hG.out, rmems_one h93])
      have hla : a < S.size := by have := byteAt_in (s := bl S) (a := a) (by omega); rwa [bl_length] at this
      have hva := byteAt_ba hla
      have k1 : decide (S.size ≤ a) = false := by simp; omega
      have k2 : ((S[a].toNat : Int) != 93) = false := by rw [← hva]; simp; omega
      have k3 : ((S[a].toNat : Int) == 93) = true := by rw [← hva]; simp; omega
      clear h93 hva
      repeat (first | go_values | go_skip | go_guarded | go_step | go_upon)
      refine bodyPost_ret (v := gotC (.inr (c, a + 1))) (by simp [gotC, results, Tryd.results33, go_sem, cA]) rfl ?_
      rw [HG.out, HX.out]
      exact ⟨rfl, rbel4 y.bel _ _ _ _⟩
    · have hcond : (decide (S.size ≤ a) = true) ∨ (∃ h : a < S.size, decide (S.size ≤ a) = false ∧ ((S[a].toNat : Int) != 93) = true ∧ ((S[a].toNat : Int) == 93) = false) := by
        rcases Nat.lt_or_ge a S.size with hla | hla
        · right
          have hva := byteAt_ba hla
          refine ⟨hla, by simp; omega, ?_, ?_⟩ <;> rw [← hva] <;> simp <;> omega
        · left; simpa using hla
      cases hsg : sgnAt (bl S) a with
      | inl er =>
        obtain ⟨ec, en⟩ := er
        have HX := Lib.hid (show G = .inl (ec, en) by rw [← hG.out, rmems_bad h93 (rsgn_inl hsg)])
        have HS := Lib.hid hsg
        have hec := sgnAt_code hsg
        have k5 : ((ec : Int) != 0) = true := by simp; omega
        have k6 : ((ec : Int) == 0) = false := by simp; omega
        clear h93 hsg
        rcases hcond with k1 | ⟨hla, k1, k2, k3⟩
        all_goals
          repeat (first | go_values | go_skip | go_guarded | go_step | go_upon)
          refine (refsign_no S (a : Int) a _ hs (by omega) (by omega) HS.out).mono ?_
          rintro e w4 ⟨rfl, hb4⟩
          have y4 := y.below hb4
          obtain ⟨cA4, fA4, zA4⟩ := cells_at' y4.res
          obtain ⟨cB4, fB4, zB4⟩ := cells_at' y4.cls
          dsimp only
          repeat (first | go_values | go_skip | go_guarded | go_step | go_upon)
          refine bodyPost_ret (v := gotC (.inl (ec, en))) (by simp [gotC, results, Tryd.results33, go_sem, cA4]) rfl ?_
          rw [HG.out, HX.out]
          exact ⟨rfl, rbel4 y4.bel _ _ _ _⟩
      | inr q =>
        obtain ⟨lo, n⟩ := q
        have bd := sgnAt_bd hsg
        by_cases hdash : byteAt (bl S) n = 45
        · have hln : n < S.size := by have := byteAt_in (s := bl S) (a := n) (by omega); rwa [bl_length] at this
          have hvn := byteAt_ba hln
          have k7 : decide (n < S.size) = true := by simp; omega
          have k8 : ((S[n].toNat : Int) == 45) = true := by rw [← hvn]; simp; omega
          cases hsg2 : sgnAt (bl S) (n + 1) with
          | inl er =>
            obtain ⟨ec, en⟩ := er
            have HX := Lib.hid (show G = .inl (ec, en) by rw [← hG.out, rmems_bad h93 (by rw [rsgn_hi hsg, hiAt, if_pos hdash, hsg2])])
            have HS := Lib.hid hsg
            have HS2 := Lib.hid hsg2
            have hec := sgnAt_code hsg2
            have k5 : ((ec : Int) != 0) = true := by simp; omega
            have k6 : ((ec : Int) == 0) = false := by simp; omega
            clear h93 hsg hsg2 hdash hvn
            rcases hcond with k1 | ⟨hla, k1, k2, k3⟩
            all_goals
              repeat (first | go_values | go_skip | go_guarded | go_step | go_upon)
              refine (refsign_ok S (a : Int) a _ hs (by omega) (by omega) HS.out).mono ?_
              rintro e w4 ⟨rfl, hb4⟩
              have y4 := y.below hb4
              obtain ⟨cA4, fA4, zA4⟩ := cells_at' y4.res
              obtain ⟨cB4, fB4, zB4⟩ := cells_at' y4.cls
              dsimp only
              repeat (first | go_values | go_skip | go_guarded | go_step | go_upon)
              refine (refsign_no S _ (n + 1) _ hs (by omega) (by omega) HS2.out).mono ?_
              rintro e w5 ⟨rfl, hb5⟩
              have y5 := y4.below hb5
              obtain ⟨cA5, fA5, zA5⟩ := cells_at' y5.res
              obtain ⟨cB5, fB5, zB5⟩ := cells_at' y5.cls
              dsimp only
              repeat (first | go_values | go_skip | go_guarded | go_step | go_upon)
              refine bodyPost_ret (v := gotC (.inl (ec, en))) (by simp [gotC, results, Tryd.results33, go_sem, cA5]) rfl ?_
              rw [HG.out, HX.out]
              exact ⟨rfl, rbel4 y5.bel _ _ _ _⟩
          | inr q =>
            obtain ⟨hi, m⟩ := q
            have bd2 := sgnAt_bd hsg2
            have HS := Lib.hid hsg
            have HS2 := Lib.hid hsg2
            rcases Nat.lt_or_ge hi lo with hlt | hle
            · have HX := Lib.hid (show G = .inl (4, a) by rw [← hG.out, rmems_bad h93 (by rw [rsgn_hi hsg, hiAt, if_pos hdash, hsg2]; simp only; rw [if_pos hlt])])
              have k9 : decide (hi < lo) = true := by simpa using hlt
              clear h93 hsg hsg2 hdash hvn
              rcases hcond with k1 | ⟨hla, k1, k2, k3⟩
              all_goals
                repeat (first | go_values | go_skip | go_guarded | go_step | go_upon)
                refine (refsign_ok S (a : Int) a _ hs (by omega) (by omega) HS.out).mono ?_
                rintro e w4 ⟨rfl, hb4⟩
                have y4 := y.below hb4
                obtain ⟨cA4, fA4, zA4⟩ := cells_at' y4.res
                obtain ⟨cB4, fB4, zB4⟩ := cells_at' y4.cls
                dsimp only
                repeat (first | go_values | go_skip | go_guarded | go_step | go_upon)
                refine (refsign_ok S _ (n + 1) _ hs (by omega) (by omega) HS2.out).mono ?_
                rintro e w5 ⟨rfl, hb5⟩
                have y5 := y4.below hb5
                obtain ⟨cA5, fA5, zA5⟩ := cells_at' y5.res
                obtain ⟨cB5, fB5, zB5⟩ := cells_at' y5.cls
                dsimp only
                repeat (first | go_values | go_skip | go_guarded | go_step | go_upon)
                refine bodyPost_ret (v := gotC (.inl (4, a))) (by simp [gotC, results, Tryd.results33, go_sem, cA5]) rfl ?_
                rw [HG.out, HX.out]
                exact ⟨rfl, rbel4 y5.bel _ _ _ _⟩
            · have HX := Lib.hid (show memsAt (bl S) f m (c ||| rng lo hi) = G by rw [← hG.out, rmems_on h93 (by rw [rsgn_hi hsg, hiAt, if_pos hdash, hsg2]; simp only; rw [if_neg (by omega)])])
              have k9 : decide (hi < lo) = false := by simpa using hle
              clear h93 hsg hsg2 hdash hvn
              rcases hcond with k1 | ⟨hla, k1, k2, k3⟩
              all_goals
                repeat (first | go_values | go_skip | go_guarded | go_step | go_upon)
                refine (refsign_ok S (a : Int) a _ hs (by omega) (by omega) HS.out).mono ?_
                rintro e w4 ⟨rfl, hb4⟩
                have y4 := y.below hb4
                obtain ⟨cA4, fA4, zA4⟩ := cells_at' y4.res
                obtain ⟨cB4, fB4, zB4⟩ := cells_at' y4.cls
                dsimp only
                repeat (first | go_values | go_skip | go_guarded | go_step | go_upon)
                refine (refsign_ok S _ (n + 1) _ hs (by omega) (by omega) HS2.out).mono ?_
                rintro e w5 ⟨rfl, hb5⟩
                have y5 := y4.below hb5
                obtain ⟨cA5, fA5, zA5⟩ := cells_at' y5.res
                obtain ⟨cB5, fB5, zB5⟩ := cells_at' y5.cls
                dsimp only
                repeat (first | go_values | go_skip | go_guarded | go_step | go_upon)
                go_loopw [12] (fun t wq => ∃ q : Nat, lo ≤ q ∧ q ≤ hi + 1 ∧ t = .int .i64 (q : Int) ∧ Y (c ||| upto lo q) w wq) (fun t _ => 256 - (intOf t).toNat)
                case atStart => exact ⟨lo, Nat.le_refl _, by omega, rfl, by rw [or_upto0]; exact y5⟩
                case round =>
                  obtain ⟨q, hq1, hq2, rfl, yq⟩ := hrel
                  obtain ⟨cAq, fAq, zAq⟩ := cells_at' yq.res
                  obtain ⟨cBq, fBq, zBq⟩ := cells_at' yq.cls
                  by_cases hlt : q ≤ hi
                  · have HQ := Lib.hid (or_upto c lo q hq1 (by omega))
                    repeat (first | go_values | go_skip | go_guarded | go_step | go_upon)
                    refine (with_int (c ||| upto lo q) q _ (by omega)).mono ?_
                    rintro e w7 ⟨rfl, hb7⟩
                    have y7 := yq.below hb7
                    obtain ⟨cA7, fA7, zA7⟩ := cells_at' y7.res
                    obtain ⟨cB7, fB7, zB7⟩ := cells_at' y7.cls
                    dsimp only
                    repeat (first | go_values | go_skip | go_guarded | go_step | go_upon)
                    refine ⟨⟨q + 1, by omega, by omega, by go_num, ?_⟩, by simp [intOf]; omega⟩
                    rw [← HQ.out]
                    exact Y.cset _ y7
                  · obtain rfl : q = hi + 1 := by omega
                    rw [upto_all _ _ hle] at yq
                    clear cAq fAq zAq cBq fBq zBq
                    repeat (first | go_values | go_skip | go_guarded | go_step | go_upon)
                    refine ⟨⟨f, m, c ||| rng lo hi, rfl, yq, HX, by omega, by omega⟩, by simp [intOf]; omega⟩
        · have hcond2 : (decide (n < S.size) = false) ∨ (∃ h : n < S.size, decide (n < S.size) = true ∧ ((S[n].toNat : Int) == 45) = false) := by
            rcases Nat.lt_or_ge n S.size with hla | hla
            · right
              have hva := byteAt_ba hla
              refine ⟨hla, by simp; omega, ?_⟩
              rw [← hva]; simp; omega
            · left; simpa using hla
          have HX := Lib.hid (show memsAt (bl S) f n (c ||| rng lo lo) = G by rw [← hG.out, rmems_on (m := rng lo lo) (n := n) h93 (by rw [rsgn_hi hsg, hiAt, if_neg hdash]; simp)])
          have HS := Lib.hid hsg
          have k9 : decide (lo < lo) = false := by simp
          have hle : lo ≤ lo := Nat.le_refl _
          clear h93 hsg hdash
          rcases hcond with k1 | ⟨hla, k1, k2, k3⟩
          all_goals
            rcases hcond2 with k7 | ⟨hln, k7, k8⟩
            all_goals
              repeat (first | go_values | go_skip | go_guarded | go_step | go_upon)
              refine (refsign_ok S (a : Int) a _ hs (by omega) (by omega) HS.out).mono ?_
              rintro e w4 ⟨rfl, hb4⟩
              have y4 := y.below hb4
              obtain ⟨cA4, fA4, zA4⟩ := cells_at' y4.res
              obtain ⟨cB4, fB4, zB4⟩ := cells_at' y4.cls
              dsimp only
              repeat (first | go_values | go_skip | go_guarded | go_step | go_upon)
              go_loopw [12] (fun t wq => ∃ q : Nat, lo ≤ q ∧ q ≤ lo + 1 ∧ t = .int .i64 (q : Int) ∧ Y (c ||| upto lo q) w wq) (fun t _ => 256 - (intOf t).toNat)
              case atStart => exact ⟨lo, Nat.le_refl _, by omega, rfl, by rw [or_upto0]; exact y4⟩
              case round =>
                obtain ⟨q, hq1, hq2, rfl, yq⟩ := hrel
                obtain ⟨cAq, fAq, zAq⟩ := cells_at' yq.res
                obtain ⟨cBq, fBq, zBq⟩ := cells_at' yq.cls
                by_cases hlt : q ≤ lo
                · have HQ := Lib.hid (or_upto c lo q hq1 (by omega))
                  repeat (first | go_values | go_skip | go_guarded | go_step | go_upon)
                  refine (with_int (c ||| upto lo q) q _ (by omega)).mono ?_
                  rintro e w7 ⟨rfl, hb7⟩
                  have y7 := yq.below hb7
                  obtain ⟨cA7, fA7, zA7⟩ := cells_at' y7.res
                  obtain ⟨cB7, fB7, zB7⟩ := cells_at' y7.cls
                  dsimp only
                  repeat (first | go_values | go_skip | go_guarded | go_step | go_upon)
                  refine ⟨⟨q + 1, by omega, by omega, by go_num, ?_⟩, by simp [intOf]; omega⟩
                  rw [← HQ.out]
                  exact Y.cset _ y7
                · obtain rfl : q = lo + 1 := by omega
                  rw [upto_all _ _ hle] at yq
                  clear cAq fAq zAq cBq fBq zBq
                  repeat (first | go_values | go_skip | go_guarded | go_step | go_upon)
                  refine ⟨⟨f, n, c ||| rng lo lo, rfl, yq, HX, by omega, by omega⟩, by simp [intOf]; omega⟩
end Go.Proofs.YtlohpplpnddfaaaDoor
