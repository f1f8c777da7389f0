/- muntinlaw06.has; what a reached row holds: the walk of has. -/
import Derived.Test.YtjlcoldnhbkcgaaGreatDoorG46
namespace Go.Proofs.YtjlcoldnhbkcgaaGreatDoor
open Go.RowKit Go.Sort

theorem RowP.below {w w' : World} {B : Nat} {v : Value} {us : List Nat} (h : RowP w B v us) (hb : Below w.heap.size w w') : RowP w' B v us := owns_below h hb
/-- A row's place, and its cells. -/
theorem RowP.form {w : World} {B : Nat} {v : Value} {us : List Nat} (h : RowP w B v us) : ∃ a cap, v = .slice a us.length cap ∧ us.length ≤ cap ∧ (us = [] ∨ ∃ g, a = some ⟨g, 0, none⟩ ∧ g < w.heap.size ∧ ∀ (k x : Nat), us[k]? = some x → w.cell? ⟨g, k, none⟩ = some (.int .i64 (x : Int))) := by
  have h0 : w.ownsRow B 3 1 v us.length (us.map encN) := h
  rcases h0.2 with ⟨rfl, e⟩ | ⟨g, cap, cur, rfl, _, hg, hc, _⟩
  · rw [e]
    exact ⟨none, 0, rfl, Nat.le_refl _, .inl (List.eq_nil_of_length_eq_zero e)⟩
  · refine ⟨some ⟨g, 0, none⟩, cap, rfl, hc, .inr ⟨g, rfl, (Array.getElem?_eq_some_iff.1 hg).1, fun k x hk => ?_⟩⟩
    rw [h0.cellAt k (by have := (List.getElem?_eq_some_iff.1 hk).1; omega), List.getElem?_map, hk]
    rfl
set_option maxRecDepth 100000 in
set_option maxHeartbeats 6400000 in
theorem lhas_any {us : List Nat} {v : Value} {B : Nat} (x : Nat) (q : Bool) (hq : us.any (fun y => y == x) = q) (w : World) (h : RowP w B v us) (hl : us.length ≤ 1000000) : Calls Tryz.prog 17 #[v, .int .i64 (x : Int)] w (Ans (.bool q) w) := by
  obtain ⟨a, cap, rfl, hcap, hc⟩ := h.form
  have HC := Lib.hid hc
  have HQ := Lib.hid hq
  obtain ⟨n, hn⟩ : ∃ n, n = us.length := ⟨_, rfl⟩
  rw [← hn] at hcap hl ⊢
  have HN := Lib.hid hn
  have hm1 := cell_alloc_lt
  clear h hc hq hn
  go_enter Tryz.func17, Tryz.ntmps17
  repeat (first | go_values | go_skip | go_guarded | go_step | go_upon)
  go_loopw [5] (fun tt wr => ∃ j : Nat, tt = .int .i64 (j : Int) ∧ j ≤ n ∧ wr = w ∧ Hid ((us.take j).any (fun y => y == x) = false)) (fun tt _ => n - (intOf tt).toNat)
  case atStart => exact ⟨0, rfl, Nat.zero_le _, rfl, Lib.hid rfl⟩
  case round =>
    obtain ⟨j, rfl, hj, rfl, HA⟩ := hrel
    by_cases hlt : j < n
    · have hlt2 : j < us.length := by rw [← HN.out]; exact hlt
      obtain ⟨y, hy⟩ : ∃ y, us[j]? = some y := ⟨us[j], List.getElem?_eq_getElem hlt2⟩
      rcases HC.out with e | ⟨g, rfl, hg, hcl⟩
      · rw [e] at hlt2; simp at hlt2
      · have c0 := hcl j y hy
        have d1 : decide ((j : Int) < n) = true := by simpa using hlt
        have hjn : (j : Int) < (n : Int) := by omega
        have k5 : IntKind.i64.wrap ((j : Int) + 1) = (j : Int) + 1 := by rw [IntKind.wrap_i64]; omega
        by_cases hxy : y = x
        · subst hxy
          have m1 : ((y : Int) == (y : Int)) = true := by simp
          have hq2 : q = true := by
            rw [← HQ.out, List.any_eq_true]
            exact ⟨y, List.mem_of_getElem? hy, by simp⟩
          subst hq2
          clear hy hcl
          repeat (first | go_values | go_skip | go_guarded | go_step | go_upon)
          go_ret
          exact ⟨rfl, Below.refl _ _⟩
        · have m1 : ((y : Int) == (x : Int)) = false := by simp; omega
          have HA2 := Lib.hid (show (us.take (j + 1)).any (fun y => y == x) = false by
            rw [List.take_add_one, hy, List.any_append, HA.out]
            simpa using hxy)
          clear hy hcl hxy
          repeat (first | go_values | go_skip | go_guarded | go_step | go_upon)
          exact ⟨⟨j + 1, by go_num, by omega, by first | rfl | trivial, HA2⟩, by simp [intOf]; omega⟩
    · have d1 : decide ((j : Int) < n) = false := by simpa using hlt
      obtain rfl : j = n := by omega
      have hq2 : q = false := by rw [← HQ.out]; have := HA.out; rwa [HN.out, List.take_length] at this
      subst hq2
      clear hlt
      repeat (first | go_values | go_skip | go_guarded | go_step | go_upon)
      go_ret
      exact ⟨rfl, Below.refl _ _⟩
/-- A row of the rows, in memory. -/
theorem inr_row {w : World} {B n gu ucap i : Nat} {cells : List Value} {rows : List (List Nat)} {us : List Nat} (h : w.ownsRow B 49 1 (.slice (some ⟨gu, 0, none⟩) n ucap) n cells) (hi : InR w B cells rows) (hl : rows.length = n) (hr : rows[i]? = some us) : i < n ∧ ∃ a m, w.cell? ⟨gu, i, none⟩ = some (.slice a us.length m) ∧ us.length ≤ m ∧ (us = [] ∨ ∃ b, a = some ⟨b, 0, none⟩ ∧ b < w.heap.size ∧ ∀ (k x : Nat), us[k]? = some x → w.cell? ⟨b, k, none⟩ = some (.int .i64 (x : Int))) := by
  have hlt : i < n := by rw [← hl]; exact (List.getElem?_eq_some_iff.1 hr).1
  have hcl := hi.1
  have hci : cells[i]? = some cells[i] := List.getElem?_eq_getElem (by omega)
  have hp : RowP w B cells[i] us := hi.2 i _ us hci hr
  obtain ⟨a, m, e, h1, h2⟩ := hp.form
  refine ⟨hlt, a, m, ?_, h1, h2⟩
  rw [h.cellAt i (by omega), hci, e]
theorem any_in {us : List Nat} {x : Nat} (h : x ∈ us) : us.any (fun y => y == x) = true := by
  rw [List.any_eq_true]
  exact ⟨x, h, by simp⟩
end Go.Proofs.YtjlcoldnhbkcgaaGreatDoor
