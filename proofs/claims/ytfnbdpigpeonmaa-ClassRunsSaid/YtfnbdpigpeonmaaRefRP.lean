/- The document's rows of a class: plain facts. -/
import Derived.Test.YtfnbdpigpeonmaaRunsP
namespace Go.Proofs.Ytfnbdpigpeonmaa
open Go.RowKit

/-- The rows with one more byte behind them. -/
def addB (l : List (Nat × Nat)) (k : Nat) : List (Nat × Nat) :=
  if l.length ≠ 0 ∧ (l[l.length - 1]?.getD (0, 0)).2 + 1 = k then l.set (l.length - 1) ((l[l.length - 1]?.getD (0, 0)).1, k) else l ++ [(k, k)]
/-- The document's rows of the bytes below k. -/
def rowsTo (c : BitVec 256) : Nat → List (Nat × Nat)
  | 0 => []
  | k + 1 => if Has c k then addB (rowsTo c k) k else rowsTo c k
theorem addB_new (l : List (Nat × Nat)) (k : Nat) (h : ∀ p ∈ l, p.2 + 1 ≠ k) : addB l k = l ++ [(k, k)] := by
  unfold addB
  rw [if_neg]
  rintro ⟨h0, h1⟩
  have hl : l.length - 1 < l.length := by omega
  rw [List.getElem?_eq_getElem hl, Option.getD_some] at h1
  exact h _ (List.getElem_mem hl) h1
theorem addB_last (l : List (Nat × Nat)) (k m : Nat) (p : Nat × Nat) (hm : l.length = m + 1) (hp : l[m]? = some p) (h : p.2 + 1 ≠ k) : addB l k = l ++ [(k, k)] := by
  unfold addB
  rw [if_neg]
  rintro ⟨_, h1⟩
  rw [hm, Nat.add_sub_cancel, hp] at h1
  exact h h1
theorem addB_store (l : List (Nat × Nat)) (k m : Nat) (p : Nat × Nat) (hm : l.length = m + 1) (hp : l[m]? = some p) (h : p.2 + 1 = k) : addB l k = l.set m (p.1, k) := by
  unfold addB
  rw [hm, Nat.add_sub_cancel, hp, if_pos ⟨by omega, h⟩]
  rfl
theorem addB_on (l : List (Nat × Nat)) (a k : Nat) : addB (l ++ [(a, k)]) (k + 1) = l ++ [(a, k + 1)] := by
  unfold addB
  rw [if_pos]
  · simp
  · simp
theorem rowsTo_mem (c : BitVec 256) : ∀ k, ∀ p ∈ rowsTo c k, p.1 ≤ p.2 ∧ p.2 < k ∧ Has c p.2 = true := by
  intro k
  induction k with
  | zero => intro p hp; simp [rowsTo] at hp
  | succ k ih =>
    intro p hp
    rw [rowsTo] at hp
    by_cases h : Has c k = true
    · rw [if_pos h] at hp
      unfold addB at hp
      split at hp
      · next hh =>
        rcases List.mem_or_eq_of_mem_set hp with hp | rfl
        · have := ih p hp; exact ⟨this.1, by omega, this.2.2⟩
        · have hl : (rowsTo c k).length - 1 < (rowsTo c k).length := by omega
          have := ih _ (List.getElem_mem hl)
          rw [List.getElem?_eq_getElem hl, Option.getD_some]
          exact ⟨by simp only; omega, by simp, h⟩
      · rw [List.mem_append] at hp
        rcases hp with hp | hp
        · have := ih p hp; exact ⟨this.1, by omega, this.2.2⟩
        · simp at hp; subst hp; exact ⟨Nat.le_refl _, by simp, h⟩
    · rw [if_neg h] at hp
      have := ih p hp; exact ⟨this.1, by omega, this.2.2⟩
theorem rowsTo_len (c : BitVec 256) : ∀ k, (rowsTo c k).length ≤ k := by
  intro k
  induction k with
  | zero => simp [rowsTo]
  | succ k ih =>
    rw [rowsTo]
    split
    · unfold addB
      split
      · simp; omega
      · simp; omega
    · omega
theorem rowsTo_none (c : BitVec 256) (k : Nat) : ∀ n, (∀ j, k ≤ j → j < k + n → Has c j = false) → rowsTo c (k + n) = rowsTo c k := by
  intro n
  induction n with
  | zero => intro _; rfl
  | succ n ih =>
    intro h
    rw [show k + (n + 1) = k + n + 1 by omega, rowsTo, if_neg (by rw [h (k + n) (by omega) (by omega)]; decide), ih fun j h1 h2 => h j h1 (by omega)]
theorem rowsTo_all (c : BitVec 256) (k : Nat) (hk : ∀ p ∈ rowsTo c k, p.2 + 1 ≠ k) : ∀ n, (∀ j, k ≤ j → j < k + n + 1 → Has c j = true) → rowsTo c (k + n + 1) = rowsTo c k ++ [(k, k + n)] := by
  intro n
  induction n with
  | zero =>
    intro h
    show rowsTo c (k + 1) = rowsTo c k ++ [(k, k)]
    rw [rowsTo, if_pos (h k (by omega) (by omega)), addB_new _ _ hk]
  | succ n ih =>
    intro h
    rw [show k + (n + 1) + 1 = (k + n + 1) + 1 by omega, rowsTo, if_pos (h (k + n + 1) (by omega) (by omega)), ih fun j h1 h2 => h j h1 (by omega), addB_on]
    rfl
theorem nxt_other {c : BitVec 256} {b : Bool} {lo j : Nat} (h : lo ≤ 256) (h1 : lo ≤ j) (h2 : j < nxt c b lo) : Has c j = !b := by
  have := (nxt_spec c b lo h).2.2.2 j h1 h2
  cases b <;> simp_all
theorem rows_from (c : BitVec 256) : ∀ f lo, lo ≤ 256 → 256 < f + lo → (lo < 256 → Has c lo = true) → (lo < 256 → ∀ p ∈ rowsTo c lo, p.2 + 1 ≠ lo) → rowsTo c 256 = rowsTo c lo ++ runsF c f lo := by
  intro f
  induction f with
  | zero => intro lo h1 h2; omega
  | succ f ih =>
    intro lo h1 h2 h3 h4
    by_cases hlt : lo < 256
    · rw [runs_step hlt]
      have hgt := nxt_gt hlt (h3 hlt)
      have hle := nxt_le (c := c) (b := false) h1
      have hoth := fun j a b => nxt_other (c := c) (b := false) (j := j) h1 a b
      have hat := nxt_has (c := c) (b := false) h1
      generalize nxt c false lo = hi at *
      have e1 : rowsTo c hi = rowsTo c lo ++ [(lo, hi - 1)] := by
        have := rowsTo_all c lo (h4 hlt) (hi - 1 - lo) (fun j a b => by rw [hoth j a (by omega)]; rfl)
        rwa [show lo + (hi - 1 - lo) + 1 = hi by omega, show lo + (hi - 1 - lo) = hi - 1 by omega] at this
      have hge := nxt_ge (c := c) (b := true) hle
      have hle2 := nxt_le (c := c) (b := true) hle
      have hoth2 := fun j a b => nxt_other (c := c) (b := true) (j := j) hle a b
      have hat2 := nxt_has (c := c) (b := true) hle
      generalize nxt c true hi = lo2 at *
      have e2 : rowsTo c lo2 = rowsTo c hi := by
        have := rowsTo_none c hi (lo2 - hi) (fun j a b => by rw [hoth2 j a (by omega)]; rfl)
        rwa [show hi + (lo2 - hi) = lo2 by omega] at this
      rw [ih lo2 hle2 (by omega) hat2 ?_, e2, e1, List.append_assoc]
      · rfl
      · intro hl2 p hp e
        have hm := rowsTo_mem c lo2 p hp
        by_cases hh : hi = lo2
        · have := hat (by omega)
          rw [hh, hat2 hl2] at this
          exact absurd this (by decide)
        · have := hoth2 p.2 (by omega) (by omega)
          rw [hm.2.2] at this
          exact absurd this (by decide)
    · obtain rfl : lo = 256 := by omega
      rw [runs_end, List.append_nil]
theorem rowsTo_runs (c : BitVec 256) : rowsTo c 256 = runs c := by
  have hle := nxt_le (c := c) (b := true) (lo := 0) (by decide)
  have e := rowsTo_none c 0 (nxt c true 0) (fun j a b => by rw [nxt_other (b := true) (lo := 0) (by decide) a (by omega)]; rfl)
  rw [Nat.zero_add] at e
  rw [rows_from c 257 (nxt c true 0) hle (by omega) (nxt_has (by decide)) (by rw [e]; intro _ p hp; simp [rowsTo] at hp), e]
  rfl
/-- The list of cells, one number written in its place. -/
theorem pairs_set (l : List (Nat × Nat)) (i : Nat) (p : Nat × Nat) (b : Nat) (h : l[i]? = some p) : (pairs l).set (i * 2 + 1) (.int .i64 (b : Int)) = pairs (l.set i (p.1, b)) := by
  induction l generalizing i with
  | nil => simp at h
  | cons q l ih =>
    cases i with
    | zero => simp at h; subst h; rfl
    | succ i =>
      rw [show (i + 1) * 2 + 1 = i * 2 + 1 + 1 + 1 by omega]
      simp only [pairs, List.set_cons_succ]
      rw [ih i (by simpa using h)]
end Go.Proofs.Ytfnbdpigpeonmaa
