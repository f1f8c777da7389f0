/- Walks of package class: what is done with classes. -/
import Derived.Test.YtlohpplpnddfaaaDoorRows
import Derived.Test.YtlohpplpnddfaaaDoorBase
import Derived.Test.YtlohpplpnddfaaaDoorCls
namespace Go.Proofs.YtlohpplpnddfaaaDoor
open Go.RowKit Go.Sort

set_option maxHeartbeats 400000 in
theorem has_any (c : BitVec 256) (x : Int) (w : World) (h0 : 0 ≤ x) (h1 : x < 256) :
    Calls Tryd.prog 22 #[.agg #[.int .u64 (wd c 0), .int .u64 (wd c 1), .int .u64 (wd c 2), .int .u64 (wd c 3)], .int .u8 x] w (Ans (.bool (Has c x.toNat)) w) := by
  have hi := cl_get c (x/64).toNat (by omega)
  have HH := Lib.hid (has_wd c x h0 h1)
  go_enter Tryd.func22, Tryd.ntmps22
  go_wp2
  go_ret
  exact ⟨ret_bool HH.out, (Below.refl _ _).alloc (Nat.le_refl _) _⟩

set_option maxHeartbeats 400000 in
theorem ones_any (x : Int) (w : World) (_ : 0 ≤ x) :
    Calls Tryd.prog 51 #[.int .u64 x] w (Ans (.int .i64 (ones7 (ones x))) w) := by
  have e1 : ∀ y : Int, IntKind.u64.wrap (bits .and .u64 (y / 2) 6148914691236517205 + bits .and .u64 y 6148914691236517205) = ones1 y := fun _ => rfl
  have e2 : ∀ y : Int, IntKind.u64.wrap (bits .and .u64 (y / 4) 3689348814741910323 + bits .and .u64 y 3689348814741910323) = ones2 y := fun _ => rfl
  have e3 : ∀ y : Int, bits .and .u64 (IntKind.u64.wrap (y / 16 + y)) 1085102592571150095 = ones3 y := fun _ => rfl
  have e4 : ∀ y : Int, IntKind.u64.wrap (y + y / 256) = ones4 y := fun _ => rfl
  have e5 : ∀ y : Int, IntKind.u64.wrap (y + y / 65536) = ones5 y := fun _ => rfl
  have e6 : ∀ y : Int, IntKind.u64.wrap (y + y / 4294967296) = ones6 y := fun _ => rfl
  have e7 : ∀ y : Int, bits .and .i64 (wrap64 y) 127 = ones7 y := fun _ => rfl
  go_enter Tryd.func51, Tryd.ntmps51
  go_wp2
  go_ret
  exact ⟨rfl, Below.refl _ _⟩

set_option maxHeartbeats 800000 in
theorem both_any (c d : BitVec 256) (w : World) :
    Calls Tryd.prog 27 #[.agg #[.int .u64 (wd c 0), .int .u64 (wd c 1), .int .u64 (wd c 2), .int .u64 (wd c 3)], .agg #[.int .u64 (wd d 0), .int .u64 (wd d 1), .int .u64 (wd d 2), .int .u64 (wd d 3)]] w (Ans (.agg #[.int .u64 (wd (c &&& d) 0), .int .u64 (wd (c &&& d) 1), .int .u64 (wd (c &&& d) 2), .int .u64 (wd (c &&& d) 3)]) w) := by
  have ha := and_wd c d
  go_enter Tryd.func27, Tryd.ntmps27
  go_wp2
  refine wp_loop_rounds 5 ?_
  rw [rounds_succ]
  go_wp2
  go_region
  go_wp2
  rw [rounds_succ]
  go_wp2
  go_region
  go_wp2
  rw [rounds_succ]
  go_wp2
  go_region
  go_wp2
  rw [rounds_succ]
  go_wp2
  go_region
  go_wp2
  rw [rounds_succ]
  go_wp2
  exact bodyPost_ret (v := .agg #[.int .u64 (wd (c &&& d) 0), .int .u64 (wd (c &&& d) 1), .int .u64 (wd (c &&& d) 2), .int .u64 (wd (c &&& d) 3)]) (by simp [results, Tryd.results27, go_sem]) rfl ⟨rfl, (by repeat (first | exact Below.refl _ _ | assumption | refine bal ?_ _ | refine bdr ?_ | refine bdrn ?_ _ | (refine bset ?_ (by first | exact Nat.le_refl _ | (simp; done) | (simp; omega) | omega) _) | refine bstep ?_ (by assumption)))⟩

set_option maxHeartbeats 800000 in
theorem either_any (c d : BitVec 256) (w : World) :
    Calls Tryd.prog 29 #[.agg #[.int .u64 (wd c 0), .int .u64 (wd c 1), .int .u64 (wd c 2), .int .u64 (wd c 3)], .agg #[.int .u64 (wd d 0), .int .u64 (wd d 1), .int .u64 (wd d 2), .int .u64 (wd d 3)]] w (Ans (.agg #[.int .u64 (wd (c ||| d) 0), .int .u64 (wd (c ||| d) 1), .int .u64 (wd (c ||| d) 2), .int .u64 (wd (c ||| d) 3)]) w) := by
  have ha := or_wd c d
  go_enter Tryd.func29, Tryd.ntmps29
  go_wp2
  refine wp_loop_rounds 5 ?_
  rw [rounds_succ]
  go_wp2
  go_region
  go_wp2
  rw [rounds_succ]
  go_wp2
  go_region
  go_wp2
  rw [rounds_succ]
  go_wp2
  go_region
  go_wp2
  rw [rounds_succ]
  go_wp2
  go_region
  go_wp2
  rw [rounds_succ]
  go_wp2
  exact bodyPost_ret (v := .agg #[.int .u64 (wd (c ||| d) 0), .int .u64 (wd (c ||| d) 1), .int .u64 (wd (c ||| d) 2), .int .u64 (wd (c ||| d) 3)]) (by simp [results, Tryd.results29, go_sem]) rfl ⟨rfl, (by repeat (first | exact Below.refl _ _ | assumption | refine bal ?_ _ | refine bdr ?_ | refine bdrn ?_ _ | (refine bset ?_ (by first | exact Nat.le_refl _ | (simp; done) | (simp; omega) | omega) _) | refine bstep ?_ (by assumption)))⟩

set_option maxHeartbeats 800000 in
theorem not_any (c : BitVec 256) (w : World) :
    Calls Tryd.prog 30 #[.agg #[.int .u64 (wd c 0), .int .u64 (wd c 1), .int .u64 (wd c 2), .int .u64 (wd c 3)]] w (Ans (.agg #[.int .u64 (wd (~~~c) 0), .int .u64 (wd (~~~c) 1), .int .u64 (wd (~~~c) 2), .int .u64 (wd (~~~c) 3)]) w) := by
  have n0 := not_wd c 0 (by decide)
  have n1 := not_wd c 1 (by decide)
  have n2 := not_wd c 2 (by decide)
  have n3 := not_wd c 3 (by decide)
  have hs : ¬ IntKind.u64.signed = true := by decide
  go_enter Tryd.func30, Tryd.ntmps30
  go_wp2
  refine wp_loop_rounds 5 ?_
  rw [rounds_succ]
  go_wp2
  rw [rounds_succ]
  go_wp2
  rw [rounds_succ]
  go_wp2
  rw [rounds_succ]
  go_wp2
  rw [rounds_succ]
  go_wp2
  exact bodyPost_ret (v := .agg #[.int .u64 (wd (~~~c) 0), .int .u64 (wd (~~~c) 1), .int .u64 (wd (~~~c) 2), .int .u64 (wd (~~~c) 3)]) (by simp [results, Tryd.results30, go_sem]) rfl ⟨rfl, (by repeat (first | exact Below.refl _ _ | assumption | refine bal ?_ _ | refine bdr ?_ | refine bdrn ?_ _ | (refine bset ?_ (by first | exact Nat.le_refl _ | (simp; done) | (simp; omega) | omega) _) | refine bstep ?_ (by assumption)))⟩

set_option maxRecDepth 100000 in
set_option maxHeartbeats 800000 in
theorem next_any (c : BitVec 256) (k0 : Int) (b : Bool) (w : World) (h0 : 0 ≤ k0) (h1 : k0 ≤ 256) :
    Calls Tryd.prog 84 #[.agg #[.int .u64 (wd c 0), .int .u64 (wd c 1), .int .u64 (wd c 2), .int .u64 (wd c 3)], .int .i64 k0, .bool b] w (Ans (.int .i64 (nxt c b k0.toNat)) w) := by
  obtain ⟨n, rfl⟩ := Int.eq_ofNat_of_zero_le h0
  rw [Int.toNat_natCast]
  go_enter Tryd.func84, Tryd.ntmps84
  go_wp2
  go_loopw [1] (fun t wr => ∃ k : Nat, k ≤ 256 ∧ t = .int .i64 k ∧ Hid (nxt c b k = nxt c b n) ∧ Below (w.alloc (.cells #[.int .u64 (wd c 0), .int .u64 (wd c 1), .int .u64 (wd c 2), .int .u64 (wd c 3)] 24)).heap.size (w.alloc (.cells #[.int .u64 (wd c 0), .int .u64 (wd c 1), .int .u64 (wd c 2), .int .u64 (wd c 3)] 24)) wr) (fun t _ => 256 - (intOf t).toNat)
  case atStart => exact ⟨n, by omega, rfl, Lib.hid rfl, Below.refl _ _⟩
  case round =>
    obtain ⟨k, hk, rfl, hn, hb⟩ := hrel
    obtain ⟨hc, hf⟩ := bcell hb
    by_cases hlt : k < 256
    · by_cases he : Has c k = b
      · have he2 : (Has c k == b) = true := by simpa using he
        have HE := Lib.hid he
        clear he
        go_wp2_with (go_at_call 22; refine (has_any _ _ _ (by omega) (by omega)).mono ?_; rintro e w1 ⟨rfl, hb1⟩)
        go_ret
        exact ⟨ret_int (by rw [← hn.out, nxt_hit hlt HE.out]), (by repeat (first | exact Below.refl _ _ | assumption | refine bal ?_ _ | refine bdr ?_ | refine bdrn ?_ _ | (refine bset ?_ (by first | exact Nat.le_refl _ | (simp; done) | (simp; omega) | omega) _) | refine bstep ?_ (by assumption)))⟩
      · have he2 : (Has c k == b) = false := by simpa using he
        go_wp2_with (go_at_call 22; refine (has_any _ _ _ (by omega) (by omega)).mono ?_; rintro e w1 ⟨rfl, hb1⟩)
        exact ⟨⟨k + 1, by omega, by go_num, Lib.hid ((nxt_miss hlt he).symm.trans hn.out), (by repeat (first | exact Below.refl _ _ | assumption | refine bal ?_ _ | refine bdr ?_ | refine bdrn ?_ _ | (refine bset ?_ (by first | exact Nat.le_refl _ | (simp; done) | (simp; omega) | omega) _) | refine bstep ?_ (by assumption)))⟩, by simp [intOf]; omega⟩
    · have hk2 : k = 256 := by omega
      subst hk2
      have hn2 := Lib.hid (nxt_end c b)
      go_wp2
      go_ret
      exact ⟨ret_int (by rw [← hn.out, hn2.out]), (by repeat (first | exact Below.refl _ _ | assumption | refine bal ?_ _ | refine bdr ?_ | refine bdrn ?_ _ | (refine bset ?_ (by first | exact Nat.le_refl _ | (simp; done) | (simp; omega) | omega) _) | refine bstep ?_ (by assumption)))⟩

set_option maxRecDepth 100000 in
set_option maxHeartbeats 800000 in
theorem span_any (lo hi : Nat) (w : World) (h0 : lo ≤ hi) (h1 : hi ≤ 255) :
    Calls Tryd.prog 49 #[.int .i64 lo, .int .i64 hi] w (Ans (.agg #[.int .u64 (wd (rng lo hi) 0), .int .u64 (wd (rng lo hi) 1), .int .u64 (wd (rng lo hi) 2), .int .u64 (wd (rng lo hi) 3)]) w) := by
  go_enter Tryd.func49, Tryd.ntmps49
  go_wp2
  go_loopw [8] (fun t wr => ∃ k : Nat, k ≤ 4 ∧ t = .int .i64 k ∧ wr = w.alloc (.cells #[.int .u64 (sw (rng lo hi) 0 k), .int .u64 (sw (rng lo hi) 1 k), .int .u64 (sw (rng lo hi) 2 k), .int .u64 (sw (rng lo hi) 3 k)] 24)) (fun t _ => 4 - (intOf t).toNat)
  case atStart => exact ⟨0, by omega, rfl, by simp [sw]⟩
  case round =>
    obtain ⟨k, hk, rfl, rfl⟩ := hrel
    match k, hk with
    | 0, _ =>
      by_cases c1 : hi < 0
      · go_wp2
        all_goals first | omega | exact ⟨⟨1, by omega, rfl, by rw [sw_out _ _ (wd_rng_out lo hi 0 (by omega) h1 (by omega)), sw_step (rng lo hi) (j := 1) (k := 0) (by decide), sw_step (rng lo hi) (j := 2) (k := 0) (by decide), sw_step (rng lo hi) (j := 3) (k := 0) (by decide)]⟩, by simp [intOf]⟩
      · by_cases c2 : 63 < lo
        · go_wp2
          all_goals first | omega | exact ⟨⟨1, by omega, rfl, by rw [sw_out _ _ (wd_rng_out lo hi 0 (by omega) h1 (by omega)), sw_step (rng lo hi) (j := 1) (k := 0) (by decide), sw_step (rng lo hi) (j := 2) (k := 0) (by decide), sw_step (rng lo hi) (j := 3) (k := 0) (by decide)]⟩, by simp [intOf]⟩
        · go_wp2
          refine ⟨⟨1, by omega, rfl, ?_⟩, by simp [intOf]⟩
          rw [sw_lt (rng lo hi) (show 0 < 1 by decide), sw_step (rng lo hi) (j := 1) (k := 0) (by decide), sw_step (rng lo hi) (j := 2) (k := 0) (by decide), sw_step (rng lo hi) (j := 3) (k := 0) (by decide), wd_rng lo hi 0 _ _ (by decide) (by omega) (by omega) h0 h1 ?_ ?_]
          all_goals ((repeat' split) <;> omega)
    | 1, _ =>
      by_cases c1 : hi < 64
      · go_wp2
        all_goals first | omega | exact ⟨⟨2, by omega, rfl, by rw [sw_out _ _ (wd_rng_out lo hi 1 (by omega) h1 (by omega)), sw_step (rng lo hi) (j := 0) (k := 1) (by decide), sw_step (rng lo hi) (j := 2) (k := 1) (by decide), sw_step (rng lo hi) (j := 3) (k := 1) (by decide)]⟩, by simp [intOf]⟩
      · by_cases c2 : 127 < lo
        · go_wp2
          all_goals first | omega | exact ⟨⟨2, by omega, rfl, by rw [sw_out _ _ (wd_rng_out lo hi 1 (by omega) h1 (by omega)), sw_step (rng lo hi) (j := 0) (k := 1) (by decide), sw_step (rng lo hi) (j := 2) (k := 1) (by decide), sw_step (rng lo hi) (j := 3) (k := 1) (by decide)]⟩, by simp [intOf]⟩
        · go_wp2
          refine ⟨⟨2, by omega, rfl, ?_⟩, by simp [intOf]⟩
          rw [sw_lt (rng lo hi) (show 1 < 2 by decide), sw_step (rng lo hi) (j := 0) (k := 1) (by decide), sw_step (rng lo hi) (j := 2) (k := 1) (by decide), sw_step (rng lo hi) (j := 3) (k := 1) (by decide), wd_rng lo hi 1 _ _ (by decide) (by omega) (by omega) h0 h1 ?_ ?_]
          all_goals ((repeat' split) <;> omega)
    | 2, _ =>
      by_cases c1 : hi < 128
      · go_wp2
        all_goals first | omega | exact ⟨⟨3, by omega, rfl, by rw [sw_out _ _ (wd_rng_out lo hi 2 (by omega) h1 (by omega)), sw_step (rng lo hi) (j := 0) (k := 2) (by decide), sw_step (rng lo hi) (j := 1) (k := 2) (by decide), sw_step (rng lo hi) (j := 3) (k := 2) (by decide)]⟩, by simp [intOf]⟩
      · by_cases c2 : 191 < lo
        · go_wp2
          all_goals first | omega | exact ⟨⟨3, by omega, rfl, by rw [sw_out _ _ (wd_rng_out lo hi 2 (by omega) h1 (by omega)), sw_step (rng lo hi) (j := 0) (k := 2) (by decide), sw_step (rng lo hi) (j := 1) (k := 2) (by decide), sw_step (rng lo hi) (j := 3) (k := 2) (by decide)]⟩, by simp [intOf]⟩
        · go_wp2
          refine ⟨⟨3, by omega, rfl, ?_⟩, by simp [intOf]⟩
          rw [sw_lt (rng lo hi) (show 2 < 3 by decide), sw_step (rng lo hi) (j := 0) (k := 2) (by decide), sw_step (rng lo hi) (j := 1) (k := 2) (by decide), sw_step (rng lo hi) (j := 3) (k := 2) (by decide), wd_rng lo hi 2 _ _ (by decide) (by omega) (by omega) h0 h1 ?_ ?_]
          all_goals ((repeat' split) <;> omega)
    | 3, _ =>
      by_cases c1 : hi < 192
      · go_wp2
        all_goals first | omega | exact ⟨⟨4, by omega, rfl, by rw [sw_out _ _ (wd_rng_out lo hi 3 (by omega) h1 (by omega)), sw_step (rng lo hi) (j := 0) (k := 3) (by decide), sw_step (rng lo hi) (j := 1) (k := 3) (by decide), sw_step (rng lo hi) (j := 2) (k := 3) (by decide)]⟩, by simp [intOf]⟩
      · by_cases c2 : 255 < lo
        · go_wp2
          all_goals first | omega | exact ⟨⟨4, by omega, rfl, by rw [sw_out _ _ (wd_rng_out lo hi 3 (by omega) h1 (by omega)), sw_step (rng lo hi) (j := 0) (k := 3) (by decide), sw_step (rng lo hi) (j := 1) (k := 3) (by decide), sw_step (rng lo hi) (j := 2) (k := 3) (by decide)]⟩, by simp [intOf]⟩
        · go_wp2
          refine ⟨⟨4, by omega, rfl, ?_⟩, by simp [intOf]⟩
          rw [sw_lt (rng lo hi) (show 3 < 4 by decide), sw_step (rng lo hi) (j := 0) (k := 3) (by decide), sw_step (rng lo hi) (j := 1) (k := 3) (by decide), sw_step (rng lo hi) (j := 2) (k := 3) (by decide), wd_rng lo hi 3 _ _ (by decide) (by omega) (by omega) h0 h1 ?_ ?_]
          all_goals ((repeat' split) <;> omega)
    | 4, _ =>
      rw [sw_lt _ (by omega : 0 < 4), sw_lt _ (by omega : 1 < 4), sw_lt _ (by omega : 2 < 4), sw_lt _ (by omega : 3 < 4)]
      go_wp2
      exact bodyPost_ret (v := .agg #[.int .u64 (wd (rng lo hi) 0), .int .u64 (wd (rng lo hi) 1), .int .u64 (wd (rng lo hi) 2), .int .u64 (wd (rng lo hi) 3)]) (by simp [results, Tryd.results49, go_sem]) rfl ⟨rfl, (by repeat (first | exact Below.refl _ _ | assumption | refine bal ?_ _ | refine bdr ?_ | refine bdrn ?_ _ | (refine bset ?_ (by first | exact Nat.le_refl _ | (simp; done) | (simp; omega) | omega) _) | refine bstep ?_ (by assumption)))⟩

theorem span_call (lo hi : Int) (w : World) (h : 0 ≤ lo) (h0 : lo ≤ hi) (h1 : hi ≤ 255) :
    Calls Tryd.prog 49 #[.int .i64 lo, .int .i64 hi] w (Ans (.agg #[.int .u64 (wd (rng lo.toNat hi.toNat) 0), .int .u64 (wd (rng lo.toNat hi.toNat) 1), .int .u64 (wd (rng lo.toNat hi.toNat) 2), .int .u64 (wd (rng lo.toNat hi.toNat) 3)]) w) := by
  obtain ⟨a, rfl⟩ := Int.eq_ofNat_of_zero_le h
  obtain ⟨b, rfl⟩ := Int.eq_ofNat_of_zero_le (show 0 ≤ hi by omega)
  exact span_any a b w (by omega) (by omega)

end Go.Proofs.YtlohpplpnddfaaaDoor
