/- Two rows of tokens compared (the document's Same): the same ones. -/
import Derived.Test.YtlohpplpnddfaaaDoorTokE
namespace Go.Proofs.YtlohpplpnddfaaaDoor
open Go.RowKit Go.Sort

theorem tokCells_len (l : List Tok) : (tokCells l).length = l.length * 7 := by
  induction l with
  | nil => rfl
  | cons t l ih => rw [tokCells, List.length_append, ih, List.length_cons]; simp [tokC]; omega
theorem tokCells_get {l : List Tok} {k : Nat} {t : Tok} (h : l[k]? = some t) (j : Nat) (hj : j < 7) : (tokCells l)[k * 7 + j]? = (tokC t)[j]? := by
  induction l generalizing k with
  | nil => simp at h
  | cons u l ih =>
    cases k with
    | zero =>
      simp at h
      subst h
      rw [tokCells, Nat.zero_mul, Nat.zero_add, List.getElem?_append_left (by simp [tokC]; omega)]
    | succ k =>
      simp at h
      rw [tokCells, List.getElem?_append_right (by simp [tokC]; omega), ← ih h]
      congr 1
      simp [tokC]
      omega
/-- The cells of a token in a row. -/
theorem tok_at {w : World} {B g cap : Nat} {l : List Tok} {n : Nat} (h : w.ownsRow B 53 7 (.slice (some ⟨g, 0, none⟩) n cap) n (tokCells l)) (hn : l.length = n) {k : Nat} {t : Tok} (hk : l[k]? = some t) :
    w.cell? ⟨g, k * 7, none⟩ = some (.int .i64 (t.kind : Int)) ∧ w.cell? ⟨g, k * 7 + 1, none⟩ = some (.string (mkS t.text)) ∧ w.cell? ⟨g, k * 7 + 2, none⟩ = some (.int .u64 (wd t.cls 0)) ∧ w.cell? ⟨g, k * 7 + 3, none⟩ = some (.int .u64 (wd t.cls 1)) ∧ w.cell? ⟨g, k * 7 + 4, none⟩ = some (.int .u64 (wd t.cls 2)) ∧ w.cell? ⟨g, k * 7 + 5, none⟩ = some (.int .u64 (wd t.cls 3)) ∧ w.cell? ⟨g, k * 7 + 6, none⟩ = some (.int .i64 (t.pos : Int)) := by
  have hlt : k < l.length := (List.getElem?_eq_some_iff.1 hk).1
  have key : ∀ j, j < 7 → w.cell? ⟨g, k * 7 + j, none⟩ = (tokC t)[j]? := fun j hj => by rw [h.cellAt _ (by omega), tokCells_get hk j hj]
  exact ⟨key 0 (by decide), key 1 (by decide), key 2 (by decide), key 3 (by decide), key 4 (by decide), key 5 (by decide), key 6 (by decide)⟩
set_option maxRecDepth 100000 in
set_option maxHeartbeats 1600000 in
theorem tsame_any (l : List Tok) (n B1 B2 : Nat) (v1 v2 : Value) (w : World) (hlen : n ≤ 100000) (hn : l.length = n) (h1 : w.ownsRow B1 53 7 v1 n (tokCells l)) (h2 : w.ownsRow B2 53 7 v2 n (tokCells l)) :
    Calls Tryd.prog 38 #[v1, v2] w (Ans (.bool true) w) := by
  have f8 := guard_tok
  have f9 := equal_tok
  rcases owns_form2 h1 with ⟨hn1, hv1⟩ | ⟨g1, cap1, hv1⟩ <;> rcases owns_form2 h2 with ⟨hn2, hv2⟩ | ⟨g2, cap2, hv2⟩
  all_goals
    subst hv1
    subst hv2
  · clear hn1 hn2 hn h1 h2
    go_enter Tryd.func38, Tryd.ntmps38
    repeat (first | go_values | go_skip | go_guarded | go_step | go_upon)
    refine wp_loop_rounds 1 ?_
    rw [rounds_succ]
    repeat (first | go_values | go_skip | go_guarded | go_step | go_upon)
    go_ret
    exact ⟨rfl, (by repeat (first | exact Below.refl _ _ | assumption | refine bal ?_ _ | refine bdr ?_ | refine bdrn ?_ _ | (refine bset ?_ (by first | exact Nat.le_refl _ | (simp; done) | (simp; omega) | omega) _) | refine bstep ?_ (by assumption)))⟩
  · subst hn1
    clear hn h1 h2
    go_enter Tryd.func38, Tryd.ntmps38
    repeat (first | go_values | go_skip | go_guarded | go_step | go_upon)
    refine wp_loop_rounds 1 ?_
    rw [rounds_succ]
    repeat (first | go_values | go_skip | go_guarded | go_step | go_upon)
    go_ret
    exact ⟨rfl, (by repeat (first | exact Below.refl _ _ | assumption | refine bal ?_ _ | refine bdr ?_ | refine bdrn ?_ _ | (refine bset ?_ (by first | exact Nat.le_refl _ | (simp; done) | (simp; omega) | omega) _) | refine bstep ?_ (by assumption)))⟩
  · subst hn2
    clear hn h1 h2
    go_enter Tryd.func38, Tryd.ntmps38
    repeat (first | go_values | go_skip | go_guarded | go_step | go_upon)
    refine wp_loop_rounds 1 ?_
    rw [rounds_succ]
    repeat (first | go_values | go_skip | go_guarded | go_step | go_upon)
    go_ret
    exact ⟨rfl, (by repeat (first | exact Below.refl _ _ | assumption | refine bal ?_ _ | refine bdr ?_ | refine bdrn ?_ _ | (refine bset ?_ (by first | exact Nat.le_refl _ | (simp; done) | (simp; omega) | omega) _) | refine bstep ?_ (by assumption)))⟩
  · go_enter Tryd.func38, Tryd.ntmps38
    repeat (first | go_values | go_skip | go_guarded | go_step | go_upon)
    go_loopw [5] (fun t wr => ∃ k : Nat, k ≤ n ∧ t = .int .i64 k ∧ Below w.heap.size w wr) (fun t _ => n - (intOf t).toNat)
    case atStart => exact ⟨0, Nat.zero_le _, rfl, Below.refl _ _⟩
    case round =>
      obtain ⟨k, hk, rfl, hbr⟩ := hrel
      have o1 := owns_below h1 hbr
      have o2 := owns_below h2 hbr
      by_cases hlt : k < n
      · obtain ⟨p, hp⟩ : ∃ p, l[k]? = some p := ⟨l[k], List.getElem?_eq_getElem (by omega)⟩
        obtain ⟨a0, a1, a2, a3, a4, a5, a6⟩ := tok_at o1 hn hp
        obtain ⟨b0, b1, b2, b3, b4, b5, b6⟩ := tok_at o2 hn hp
        clear hp h1 h2 o1 o2 hn
        repeat (first | go_values | go_skip | go_guarded | go_step | go_upon)
        go_region
        repeat (first | go_values | go_skip | go_guarded | go_step | go_upon)
        exact ⟨⟨k + 1, by omega, by go_num, (by repeat (first | exact Below.refl _ _ | assumption | refine bal ?_ _ | refine bdr ?_ | refine bdrn ?_ _ | (refine bset ?_ (by first | exact Nat.le_refl _ | (simp; done) | (simp; omega) | omega) _) | refine bstep ?_ (by assumption)))⟩, by simp [intOf]; omega⟩
      · clear h1 h2 o1 o2
        repeat (first | go_values | go_skip | go_guarded | go_step | go_upon)
        go_ret
        exact ⟨rfl, (by repeat (first | exact Below.refl _ _ | assumption | refine bal ?_ _ | refine bdr ?_ | refine bdrn ?_ _ | (refine bset ?_ (by first | exact Nat.le_refl _ | (simp; done) | (simp; omega) | omega) _) | refine bstep ?_ (by assumption)))⟩
end Go.Proofs.YtlohpplpnddfaaaDoor
