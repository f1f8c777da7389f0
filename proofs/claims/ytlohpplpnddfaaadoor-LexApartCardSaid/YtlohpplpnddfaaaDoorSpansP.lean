/- The rows of a class are all of it, apart and rising. Plain. -/
import Derived.Test.YtlohpplpnddfaaaDoorRunsP
namespace Go.Proofs.YtlohpplpnddfaaaDoor
open Go.RowKit

theorem runsF_bd {c : BitVec 256} : ∀ (f lo : Nat), lo ≤ 256 → 256 < f + lo → (lo < 256 → Has c lo = true) → ∀ p ∈ runsF c f lo, lo ≤ p.1 ∧ p.1 ≤ p.2 ∧ p.2 ≤ 255 := by
  intro f
  induction f with
  | zero => intro lo h1 h2; omega
  | succ f ih =>
    intro lo h1 h2 h3 p hp
    by_cases hlt : lo < 256
    · have hgt := nxt_gt hlt (h3 hlt)
      have hle := nxt_le (c := c) (b := false) h1
      have hge := nxt_ge (c := c) (b := true) hle
      rw [runs_step hlt, List.mem_cons] at hp
      rcases hp with rfl | hp
      · simp only; omega
      · have := ih (nxt c true (nxt c false lo)) (nxt_le hle) (by omega) (fun h => nxt_has hle h) p hp
        omega
    · obtain rfl : lo = 256 := by omega
      rw [runs_end] at hp
      simp at hp
theorem runsF_apart {c : BitVec 256} : ∀ (f lo : Nat), lo ≤ 256 → 256 < f + lo → (lo < 256 → Has c lo = true) → (runsF c f lo).Pairwise (fun p q => p.2 + 1 < q.1) := by
  intro f
  induction f with
  | zero => intro lo h1 h2; omega
  | succ f ih =>
    intro lo h1 h2 h3
    by_cases hlt : lo < 256
    · have hgt := nxt_gt hlt (h3 hlt)
      have hle := nxt_le (c := c) (b := false) h1
      have hge := nxt_ge (c := c) (b := true) hle
      rw [runs_step hlt, List.pairwise_cons]
      refine ⟨fun q hq => ?_, ih _ (nxt_le hle) (by omega) (fun h => nxt_has hle h)⟩
      have hb := runsF_bd f (nxt c true (nxt c false lo)) (nxt_le hle) (by omega) (fun h => nxt_has hle h) q hq
      have hne : nxt c true (nxt c false lo) ≠ nxt c false lo := by
        intro he
        by_cases h5 : nxt c false lo < 256
        · have a1 := nxt_has (c := c) (b := false) h1 h5
          have a2 := nxt_has (c := c) (b := true) hle (by omega)
          rw [he, a1] at a2
          cases a2
        · omega
      simp only
      omega
    · obtain rfl : lo = 256 := by omega
      rw [runs_end]
      exact List.Pairwise.nil
theorem runsF_all {c : BitVec 256} : ∀ (f lo : Nat), lo ≤ 256 → 256 < f + lo → (lo < 256 → Has c lo = true) → ∀ j, lo ≤ j → j < 256 → (Has c j = true ↔ ∃ p ∈ runsF c f lo, p.1 ≤ j ∧ j ≤ p.2) := by
  intro f
  induction f with
  | zero => intro lo h1 h2; omega
  | succ f ih =>
    intro lo h1 h2 h3 j hj hj2
    have hlt : lo < 256 := by omega
    have hgt := nxt_gt hlt (h3 hlt)
    have hle := nxt_le (c := c) (b := false) h1
    have hge := nxt_ge (c := c) (b := true) hle
    have s1 := nxt_spec c false lo h1
    have s2 := nxt_spec c true (nxt c false lo) hle
    rw [runs_step hlt]
    constructor
    · intro hh
      by_cases a : j < nxt c false lo
      · exact ⟨_, List.mem_cons_self, hj, by simp only; omega⟩
      · have hj3 : nxt c true (nxt c false lo) ≤ j := by
          apply Nat.le_of_not_lt
          intro h
          exact s2.2.2.2 j (by omega) h hh
        obtain ⟨p, hp, hp2⟩ := (ih _ (nxt_le hle) (by omega) (fun h => nxt_has hle h) j hj3 hj2).1 hh
        exact ⟨p, List.mem_cons_of_mem _ hp, hp2⟩
    · rintro ⟨p, hp, h4, h5⟩
      rw [List.mem_cons] at hp
      rcases hp with rfl | hp
      · simp only at h4 h5
        have := s1.2.2.2 j hj (by omega)
        simpa using this
      · have hb := runsF_bd f _ (nxt_le hle) (by omega) (fun h => nxt_has hle h) p hp
        exact (ih _ (nxt_le hle) (by omega) (fun h => nxt_has hle h) j (by omega) hj2).2 ⟨p, hp, h4, h5⟩
theorem runs_bd {c : BitVec 256} {p : Nat × Nat} (h : p ∈ runs c) : p.1 ≤ p.2 ∧ p.2 ≤ 255 := (runsF_bd 257 _ (nxt_le (by decide)) (by omega) (fun h => nxt_has (by decide) h) p h).2
theorem runs_apart (c : BitVec 256) : (runs c).Pairwise (fun p q => p.2 + 1 < q.1) := runsF_apart 257 _ (nxt_le (by decide)) (by omega) (fun h => nxt_has (by decide) h)
theorem runs_all (c : BitVec 256) (j : Nat) (hj : j < 256) : Has c j = true ↔ ∃ p ∈ runs c, p.1 ≤ j ∧ j ≤ p.2 := by
  by_cases h : nxt c true 0 ≤ j
  · exact runsF_all 257 _ (nxt_le (by decide)) (by omega) (fun h => nxt_has (by decide) h) j h hj
  · have s := (nxt_spec c true 0 (by decide)).2.2.2 j (by omega) (by omega)
    constructor
    · intro hh; exact absurd hh s
    · rintro ⟨p, hp, h4, h5⟩
      have := (runsF_bd 257 _ (nxt_le (by decide)) (by omega) (fun h => nxt_has (by decide) h) p hp).1
      omega
/-- What the first k rows make. -/
def uni : List (Nat × Nat) → BitVec 256
  | [] => 0#256
  | p :: l => rng p.1 p.2 ||| uni l
theorem has_zero (j : Nat) : Has 0#256 j = false := by simp [Has]
theorem has_uni (l : List (Nat × Nat)) (j : Nat) (hj : j < 256) (hl : ∀ p ∈ l, p.2 ≤ 255) : Has (uni l) j = true ↔ ∃ p ∈ l, p.1 ≤ j ∧ j ≤ p.2 := by
  induction l with
  | nil => simp [uni, has_zero]
  | cons p l ih =>
    rw [uni, has_or, has_rng _ _ _ hj (hl p List.mem_cons_self), Bool.or_eq_true, ih (fun q hq => hl q (List.mem_cons_of_mem _ hq))]
    simp
theorem uni_snoc (l : List (Nat × Nat)) (p : Nat × Nat) (hl : ∀ q ∈ l ++ [p], q.2 ≤ 255) : uni (l ++ [p]) = uni l ||| rng p.1 p.2 := by
  apply cl_ext
  intro k hk
  rw [Bool.eq_iff_iff, has_uni _ _ hk hl, has_or, Bool.or_eq_true, has_uni _ _ hk (fun q hq => hl q (by simp [hq])), has_rng _ _ _ hk (hl p (by simp))]
  simp [or_and_right, exists_or]
theorem uni_runs (c : BitVec 256) : uni (runs c) = c := by
  apply cl_ext
  intro k hk
  rw [Bool.eq_iff_iff, has_uni _ _ hk (fun p hp => (runs_bd hp).2), runs_all c k hk]
end Go.Proofs.YtlohpplpnddfaaaDoor
