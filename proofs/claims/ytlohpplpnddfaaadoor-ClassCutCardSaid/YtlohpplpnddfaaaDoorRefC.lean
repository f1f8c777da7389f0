/- Walks of the document's answer for classes. -/
import Derived.Test.YtlohpplpnddfaaaDoorRefH
import Derived.Test.YtlohpplpnddfaaaDoorEq
namespace Go.Proofs.YtlohpplpnddfaaaDoor
open Go.RowKit Go.Sort

theorem one_wd (n : Nat) (h : n < 256) : IntKind.u64.wrap (2 ^ (n % 64)) = wd (rng n n) (n / 64) := by
  have := wd_rng n n (n / 64) 63 (n % 64) (by omega) (by omega) (by omega) (Nat.le_refl _) (by omega) (by omega) (by omega)
  rw [← this]
  congr 1
  rw [show (18446744073709551615 : Int) / 2 ^ 63 = 1 by decide, Int.one_mul]
theorem or_zero_wd (c : BitVec 256) (j : Nat) : bits .or .u64 (wd c j) 0 = wd c j := by
  have := or_wd c 0#256 j
  rwa [wd_zero, BitVec.or_zero] at this
theorem with_same (c : BitVec 256) (n : Nat) (h : n < 256) : bits .or .u64 (wd c (n / 64)) (IntKind.u64.wrap (2 ^ (n % 64))) = wd (c ||| rng n n) (n / 64) := by
  rw [one_wd n h, or_wd]
theorem with_other (c : BitVec 256) (n j : Nat) (h : n < 256) (hj : j < 4) (hne : j ≠ n / 64) : wd (c ||| rng n n) j = wd c j := by
  rw [← or_wd, wd_rng_out n n j hj (by omega) (by omega), or_zero_wd]
set_option maxRecDepth 100000 in
set_option maxHeartbeats 1600000 in
theorem with_any (c : BitVec 256) (n : Nat) (w : World) (h1 : n < 256) :
    Calls Tryd.prog 52 #[.agg #[.int .u64 (wd c 0), .int .u64 (wd c 1), .int .u64 (wd c 2), .int .u64 (wd c 3)], .int .i64 n] w (Ans (.agg #[.int .u64 (wd (c ||| rng n n) 0), .int .u64 (wd (c ||| rng n n) 1), .int .u64 (wd (c ||| rng n n) 2), .int .u64 (wd (c ||| rng n n) 3)]) w) := by
  have hs := with_same c n h1
  have ho := fun j (hj : j < 4) (hne : j ≠ n / 64) => Lib.hid (with_other c n j h1 hj hne)
  have ex : ((n : Int) % 64).toNat = n % 64 := by omega
  have hq : n / 64 = 0 ∨ n / 64 = 1 ∨ n / 64 = 2 ∨ n / 64 = 3 := by omega
  rcases hq with hq | hq | hq | hq
  · have hq2 : (n : Int) / 64 = 0 := by omega
    rw [hq] at hs
    have o1 := ho 1 (by decide) (by omega)
    have o2 := ho 2 (by decide) (by omega)
    have o3 := ho 3 (by decide) (by omega)
    clear ho
    have HQ := Lib.hid hq
    clear hq
    go_enter Tryd.func52, Tryd.ntmps52
    repeat (first | go_values | go_skip | go_guarded | go_step | go_upon)
    go_region
    repeat (first | go_values | go_skip | go_guarded | go_step | go_upon)
    exact bodyPost_ret (v := .agg #[.int .u64 (wd (c ||| rng n n) 0), .int .u64 (wd (c ||| rng n n) 1), .int .u64 (wd (c ||| rng n n) 2), .int .u64 (wd (c ||| rng n n) 3)]) (by simp [results, Tryd.results52, go_sem, ex, hs, o1.out, o2.out, o3.out]) rfl ⟨rfl, (by repeat (first | exact Below.refl _ _ | assumption | refine bal ?_ _ | refine bdr ?_ | refine bdrn ?_ _ | (refine bset ?_ (by first | exact Nat.le_refl _ | (simp; done) | (simp; omega) | omega) _) | refine bstep ?_ (by assumption)))⟩
  · have hq2 : (n : Int) / 64 = 1 := by omega
    rw [hq] at hs
    have o0 := ho 0 (by decide) (by omega)
    have o2 := ho 2 (by decide) (by omega)
    have o3 := ho 3 (by decide) (by omega)
    clear ho
    have HQ := Lib.hid hq
    clear hq
    go_enter Tryd.func52, Tryd.ntmps52
    repeat (first | go_values | go_skip | go_guarded | go_step | go_upon)
    go_region
    repeat (first | go_values | go_skip | go_guarded | go_step | go_upon)
    exact bodyPost_ret (v := .agg #[.int .u64 (wd (c ||| rng n n) 0), .int .u64 (wd (c ||| rng n n) 1), .int .u64 (wd (c ||| rng n n) 2), .int .u64 (wd (c ||| rng n n) 3)]) (by simp [results, Tryd.results52, go_sem, ex, hs, o0.out, o2.out, o3.out]) rfl ⟨rfl, (by repeat (first | exact Below.refl _ _ | assumption | refine bal ?_ _ | refine bdr ?_ | refine bdrn ?_ _ | (refine bset ?_ (by first | exact Nat.le_refl _ | (simp; done) | (simp; omega) | omega) _) | refine bstep ?_ (by assumption)))⟩
  · have hq2 : (n : Int) / 64 = 2 := by omega
    rw [hq] at hs
    have o0 := ho 0 (by decide) (by omega)
    have o1 := ho 1 (by decide) (by omega)
    have o3 := ho 3 (by decide) (by omega)
    clear ho
    have HQ := Lib.hid hq
    clear hq
    go_enter Tryd.func52, Tryd.ntmps52
    repeat (first | go_values | go_skip | go_guarded | go_step | go_upon)
    go_region
    repeat (first | go_values | go_skip | go_guarded | go_step | go_upon)
    exact bodyPost_ret (v := .agg #[.int .u64 (wd (c ||| rng n n) 0), .int .u64 (wd (c ||| rng n n) 1), .int .u64 (wd (c ||| rng n n) 2), .int .u64 (wd (c ||| rng n n) 3)]) (by simp [results, Tryd.results52, go_sem, ex, hs, o0.out, o1.out, o3.out]) rfl ⟨rfl, (by repeat (first | exact Below.refl _ _ | assumption | refine bal ?_ _ | refine bdr ?_ | refine bdrn ?_ _ | (refine bset ?_ (by first | exact Nat.le_refl _ | (simp; done) | (simp; omega) | omega) _) | refine bstep ?_ (by assumption)))⟩
  · have hq2 : (n : Int) / 64 = 3 := by omega
    rw [hq] at hs
    have o0 := ho 0 (by decide) (by omega)
    have o1 := ho 1 (by decide) (by omega)
    have o2 := ho 2 (by decide) (by omega)
    clear ho
    have HQ := Lib.hid hq
    clear hq
    go_enter Tryd.func52, Tryd.ntmps52
    repeat (first | go_values | go_skip | go_guarded | go_step | go_upon)
    go_region
    repeat (first | go_values | go_skip | go_guarded | go_step | go_upon)
    exact bodyPost_ret (v := .agg #[.int .u64 (wd (c ||| rng n n) 0), .int .u64 (wd (c ||| rng n n) 1), .int .u64 (wd (c ||| rng n n) 2), .int .u64 (wd (c ||| rng n n) 3)]) (by simp [results, Tryd.results52, go_sem, ex, hs, o0.out, o1.out, o2.out]) rfl ⟨rfl, (by repeat (first | exact Below.refl _ _ | assumption | refine bal ?_ _ | refine bdr ?_ | refine bdrn ?_ _ | (refine bset ?_ (by first | exact Nat.le_refl _ | (simp; done) | (simp; omega) | omega) _) | refine bstep ?_ (by assumption)))⟩
set_option maxRecDepth 100000 in
set_option maxHeartbeats 1600000 in
theorem rcount_any (c : BitVec 256) (w : World) : Calls Tryd.prog 31 #[.agg #[.int .u64 (wd c 0), .int .u64 (wd c 1), .int .u64 (wd c 2), .int .u64 (wd c 3)]] w (Ans (.int .i64 (cnt c)) w) := by
  go_enter Tryd.func31, Tryd.ntmps31
  repeat (first | go_values | go_skip | go_guarded | go_step | go_upon)
  go_loopw [3, 4] (fun nn t wr => ∃ k : Nat, k ≤ 256 ∧ t = .int .i64 k ∧ nn = .int .i64 (cntTo c k : Nat) ∧ Below (w.alloc (.cells #[.int .u64 (wd c 0), .int .u64 (wd c 1), .int .u64 (wd c 2), .int .u64 (wd c 3)] 24)).heap.size (w.alloc (.cells #[.int .u64 (wd c 0), .int .u64 (wd c 1), .int .u64 (wd c 2), .int .u64 (wd c 3)] 24)) wr) (fun _ t _ => 256 - (intOf t).toNat)
  case atStart => exact ⟨0, by omega, rfl, rfl, Below.refl _ _⟩
  case round =>
    obtain ⟨k, hk, rfl, rfl, hb⟩ := hrel
    obtain ⟨hc, hf⟩ := bcell hb
    have hzr := hb.size
    simp at hzr
    have qr : w.heap.size < wr.heap.size := by omega
    have hle := cntTo_le c k
    by_cases hlt : k < 256
    · cases hh : Has c k
      all_goals
        have hst : cntTo c (k + 1) = cntTo c k + if Has c k then 1 else 0 := rfl
        rw [hh] at hst
        have HS := Lib.hid hst
        clear hst
        repeat (first | go_values | go_skip | go_guarded | go_step | go_upon)
        refine (rhas_b c k _ _ hlt hh).mono ?_
        rintro e w1 ⟨rfl, hb1⟩
        obtain ⟨hc1, hf1⟩ := bcell hb1
        have hz1 := hb1.size
        try simp at hz1
        have q1_0 : w.heap.size < w1.heap.size := by omega
        dsimp only
        repeat (first | go_values | go_skip | go_guarded | go_step | go_upon)
        exact ⟨⟨k + 1, by omega, by go_num, by rw [HS.out]; simp, (by repeat (first | exact Below.refl _ _ | assumption | refine bal ?_ _ | refine bdr ?_ | refine bdrn ?_ _ | (refine bset ?_ (by first | exact Nat.le_refl _ | (simp; done) | (simp; omega) | omega) _) | refine bstep ?_ (by assumption)))⟩, by simp [intOf]; omega⟩
    · obtain rfl : k = 256 := by omega
      repeat (first | go_values | go_skip | go_guarded | go_step | go_upon)
      go_ret
      exact ⟨rfl, (by repeat (first | exact Below.refl _ _ | assumption | refine bal ?_ _ | refine bdr ?_ | refine bdrn ?_ _ | (refine bset ?_ (by first | exact Nat.le_refl _ | (simp; done) | (simp; omega) | omega) _) | refine bstep ?_ (by assumption)))⟩
theorem or_rng (lo k : Nat) (h : lo ≤ k) (hk : k < 256) : (if k = lo then 0#256 else rng lo (k - 1)) ||| rng k k = rng lo k := by
  apply cl_ext
  intro j hj
  rw [has_or, has_rng _ _ _ hj (by omega), has_rng _ _ _ hj (by omega)]
  by_cases e : k = lo
  · rw [if_pos e]
    simp only [Has, BitVec.getLsbD_zero, Bool.false_or]
    subst e
    rfl
  · rw [if_neg e, has_rng _ _ _ hj (by omega)]
    rw [Bool.eq_iff_iff]
    simp
    omega
/-- The bytes from lo on below k. -/
def upto (lo k : Nat) : BitVec 256 := if k ≤ lo then 0#256 else rng lo (k - 1)
theorem upto_step (lo k : Nat) (h : lo ≤ k) (hk : k < 256) : upto lo k ||| rng k k = upto lo (k + 1) := by
  unfold upto
  rw [if_neg (by omega : ¬ k + 1 ≤ lo), Nat.add_sub_cancel, ← or_rng lo k h hk]
  by_cases e : k = lo
  · rw [if_pos (by omega), if_pos e]
  · rw [if_neg (by omega), if_neg e]
theorem set4' {w : World} {B : Nat} {a b c d a' b' c' d' : Value} {t : TypeId} (h : w.heap[B]? = some (.cells #[a, b, c, d] t (0, 0))) :
    ((((w.setCell ⟨B, 0, none⟩ a').setCell ⟨B, 1, none⟩ b').setCell ⟨B, 2, none⟩ c').setCell ⟨B, 3, none⟩ d').heap[B]? = some (.cells #[a', b', c', d'] t (0, 0)) :=
  heap_setCell_same _ B 3 _ _ _ (heap_setCell_same _ B 2 _ _ _ (heap_setCell_same _ B 1 _ _ _ (heap_setCell_same _ B 0 _ _ _ h)))
theorem cells_at' {w : World} {b : Nat} {cs : Array Value} {t : TypeId} (h : w.heap[b]? = some (.cells cs t (0, 0))) : (∀ j, w.cell? ⟨b, j, none⟩ = cs[j]?) ∧ (∀ j, w.frozen? ⟨b, j, none⟩ = false) ∧ b < w.heap.size :=
  ⟨fun j => by simp [World.cell?, h], fun j => frozen_of_row w b j cs t h, (Array.getElem?_eq_some_iff.1 h).1⟩
set_option maxRecDepth 100000 in
set_option maxHeartbeats 1600000 in
theorem rrange_yes (lo hi : Nat) (w : World) (h0 : lo ≤ hi) (h1 : hi ≤ 255) :
    Calls Tryd.prog 25 #[.int .i64 lo, .int .i64 hi] w (Ans (.tuple #[.agg #[.int .u64 (wd (rng lo hi) 0), .int .u64 (wd (rng lo hi) 1), .int .u64 (wd (rng lo hi) 2), .int .u64 (wd (rng lo hi) 3)], .int .i64 0]) w) := by
  have d1 : decide ((lo : Int) < 0) = false := by simp
  have d2 : decide ((255 : Int) < hi) = false := by simp; omega
  have d3 : decide ((hi : Int) < lo) = false := by simp; omega
  have hz := wd_zero
  go_enter Tryd.func25, Tryd.ntmps25
  repeat (first | go_values | go_skip | go_guarded | go_step | go_upon)
  go_loopw [7] (fun t wr => ∃ k : Nat, lo ≤ k ∧ k ≤ hi + 1 ∧ t = .int .i64 k ∧ wr.heap[w.heap.size + 1]? = some (.cells #[.int .u64 (wd (upto lo k) 0), .int .u64 (wd (upto lo k) 1), .int .u64 (wd (upto lo k) 2), .int .u64 (wd (upto lo k) 3)] 24 (0, 0)) ∧ Below (w.heap.size + 1) (w.alloc (.cells #[.int .u64 0, .int .u64 0, .int .u64 0, .int .u64 0] 24)) wr) (fun t _ => 256 - (intOf t).toNat)
  case atStart =>
    refine ⟨lo, Nat.le_refl _, by omega, rfl, ?_, ?_⟩
    · rw [show upto lo lo = 0#256 from if_pos (Nat.le_refl _)]
      simp only [wd_zero]
      rw [show w.heap.size + 1 = (w.alloc (.cells #[.int .u64 0, .int .u64 0, .int .u64 0, .int .u64 0] 24)).heap.size by simp]
      exact heap_alloc_new _ _
    · exact (Below.refl _ _).alloc (by simp) _
  case round =>
    obtain ⟨k, hlk, hk, rfl, hbox, hb⟩ := hrel
    obtain ⟨cb, fb, zb⟩ := cells_at' hbox
    have c0 : ∀ j, wr.cell? ⟨w.heap.size, j, none⟩ = (#[.int .u64 0, .int .u64 0, .int .u64 0, .int .u64 0] : Array Value)[j]? := fun j => (hb.cell (p := ⟨w.heap.size, j, none⟩) (by simp)).trans (by simp)
    have f0 : ∀ j, wr.frozen? ⟨w.heap.size, j, none⟩ = false := fun j => (hb.frozen (p := ⟨w.heap.size, j, none⟩) (by simp)).trans (by simp)
    have qr : w.heap.size < wr.heap.size := by omega
    by_cases hlt : k ≤ hi
    · have hst := Lib.hid (upto_step lo k hlk (by omega))
      repeat (first | go_values | go_skip | go_guarded | go_step | go_upon)
      refine (with_any (upto lo k) k _ (by omega)).mono ?_
      rintro e w1 ⟨rfl, hb1⟩
      obtain ⟨hc1, hf1⟩ := bcell hb1
      have hz1 := hb1.size
      try simp at hz1
      have q1_0 : w.heap.size < w1.heap.size := by omega
      have q1_1 : w.heap.size + 1 < w1.heap.size := by omega
      dsimp only
      have hbox1 := (hb1.block _ zb).trans hbox
      obtain ⟨cb1, fb1, zb1⟩ := cells_at' hbox1
      repeat (first | go_values | go_skip | go_guarded | go_step | go_upon)
      refine ⟨⟨k + 1, by omega, by omega, by go_num, ?_, ?_⟩, by simp [intOf]; omega⟩
      · rw [← hst.out]; exact set4' hbox1
      · exact ((((hb.trans (hb1.mono (by omega))).setCell (by simp) _).setCell (by simp) _).setCell (by simp) _).setCell (by simp) _
    · obtain rfl : k = hi + 1 := by omega
      have hu : upto lo (hi + 1) = rng lo hi := by unfold upto; rw [if_neg (by omega), Nat.add_sub_cancel]
      rw [hu] at cb
      clear hu hbox
      repeat (first | go_values | go_skip | go_guarded | go_step | go_upon)
      refine bodyPost_ret (v := .tuple #[.agg #[.int .u64 (wd (rng lo hi) 0), .int .u64 (wd (rng lo hi) 1), .int .u64 (wd (rng lo hi) 2), .int .u64 (wd (rng lo hi) 3)], .int .i64 0]) (by simp [results, Tryd.results25, go_sem, c0]) rfl ⟨rfl, ?_⟩
      have hb2 : Below w.heap.size w wr := (((Below.refl _ _).alloc (Nat.le_refl _) _).trans (hb.mono (by omega)))
      exact (((hb2.setCell (by simp) _).setCell (by simp) _).setCell (by simp) _).setCell (by simp) _
set_option maxRecDepth 100000 in
set_option maxHeartbeats 1600000 in
theorem rrange_no (lo hi : Int) (w : World) (h : lo < 0 ∨ 255 < hi ∨ hi < lo) :
    Calls Tryd.prog 25 #[.int .i64 lo, .int .i64 hi] w (Ans (.tuple #[.agg #[.int .u64 (wd (0#256) 0), .int .u64 (wd (0#256) 1), .int .u64 (wd (0#256) 2), .int .u64 (wd (0#256) 3)], .int .i64 1]) w) := by
  have hz := wd_zero
  have hd : (decide (lo < 0) = true) ∨ (decide (lo < 0) = false ∧ decide (255 < hi) = true) ∨ (decide (lo < 0) = false ∧ decide (255 < hi) = false ∧ decide (hi < lo) = true) := by
    simp only [decide_eq_true_eq, decide_eq_false_iff_not]; omega
  clear h
  rcases hd with d1 | ⟨d1, d2⟩ | ⟨d1, d2, d3⟩
  all_goals
    go_enter Tryd.func25, Tryd.ntmps25
    repeat (first | go_values | go_skip | go_guarded | go_step | go_upon)
    exact bodyPost_ret (v := .tuple #[.agg #[.int .u64 (wd (0#256) 0), .int .u64 (wd (0#256) 1), .int .u64 (wd (0#256) 2), .int .u64 (wd (0#256) 3)], .int .i64 1]) (by simp [results, Tryd.results25, go_sem, hz]) rfl ⟨rfl, (by repeat (first | exact Below.refl _ _ | assumption | refine bal ?_ _ | refine bdr ?_ | refine bdrn ?_ _ | (refine bset ?_ (by first | exact Nat.le_refl _ | (simp; done) | (simp; omega) | omega) _) | refine bstep ?_ (by assumption)))⟩
/-- What Mix makes of two classes. -/
def mixed (kind : Int) (c d : BitVec 256) : BitVec 256 := if kind = 0 then c &&& d else if kind = 1 then c ||| d else ~~~c
/-- The bytes below k of a class. -/
def below (c : BitVec 256) (k : Nat) : BitVec 256 := if k = 0 then 0#256 else c &&& rng 0 (k - 1)
theorem has_below (c : BitVec 256) (k j : Nat) (hk : k ≤ 256) (hj : j < 256) : Has (below c k) j = (Has c j && decide (j < k)) := by
  unfold below
  by_cases h : k = 0
  · rw [if_pos h]; simp [Has, h]
  · rw [if_neg h, has_and, has_rng _ _ _ hj (by omega)]
    congr 1
    simp
    omega
theorem below_yes (c : BitVec 256) (k : Nat) (hk : k < 256) (h : Has c k = true) : below c k ||| rng k k = below c (k + 1) := by
  apply cl_ext
  intro j hj
  rw [has_or, has_below _ _ _ (by omega) hj, has_below _ _ _ (by omega) hj, has_rng _ _ _ hj (by omega)]
  rw [Bool.eq_iff_iff]
  simp only [Bool.or_eq_true, Bool.and_eq_true, decide_eq_true_eq]
  constructor
  · rintro (⟨a, b⟩ | ⟨a, b⟩)
    · exact ⟨a, by omega⟩
    · obtain rfl : j = k := by omega
      exact ⟨h, by omega⟩
  · rintro ⟨a, b⟩
    by_cases e : j = k
    · right; omega
    · left; exact ⟨a, by omega⟩
theorem below_no (c : BitVec 256) (k : Nat) (hk : k < 256) (h : Has c k = false) : below c k = below c (k + 1) := by
  apply cl_ext
  intro j hj
  rw [has_below _ _ _ (by omega) hj, has_below _ _ _ (by omega) hj]
  by_cases e : j = k
  · subst e; rw [h]; rfl
  · congr 1
    apply decide_eq_decide.2
    omega
theorem below_all (c : BitVec 256) : below c 256 = c := by
  apply cl_ext
  intro j hj
  rw [has_below _ _ _ (by omega) hj]
  simp [hj]
theorem has_mixed (kind : Int) (c d : BitVec 256) (k : Nat) (hk : k < 256) : Has (mixed kind c d) k = if kind = 0 then Has c k && Has d k else if kind = 1 then Has c k || Has d k else !Has c k := by
  unfold mixed
  split
  · rw [has_and]
  · split
    · rw [has_or]
    · rw [has_not _ _ hk]
end Go.Proofs.YtlohpplpnddfaaaDoor
