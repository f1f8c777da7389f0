/- The walk of ClassSpans. -/
import Derived.Test.YtfnbdpigpeonmaaSmall
import Derived.Test.YtfnbdpigpeonmaaRunsW
import Derived.Test.YtfnbdpigpeonmaaSpansP
import Derived.Deep.RegionHeld3
namespace Go.Proofs.Ytfnbdpigpeonmaa
open Go.RowKit Go.Sort

/-- The last byte of what was seen. -/
def lastOf (l : List (Nat × Nat)) (k : Nat) : Int := if k = 0 then -2 else ((l[k - 1]?.getD (0, 0)).2 : Int)

theorem set4 {w : World} {B : Nat} {a b c d a' b' c' d' : Value} {t : TypeId} (h : w.heap[B]? = some (.cells #[a, b, c, d] t (0, 0))) :
    ((((w.setCell ⟨B, 0, none⟩ a').setCell ⟨B, 1, none⟩ b').setCell ⟨B, 2, none⟩ c').setCell ⟨B, 3, none⟩ d').heap[B]? = some (.cells #[a', b', c', d'] t (0, 0)) :=
  heap_setCell_same _ B 3 _ _ _ (heap_setCell_same _ B 2 _ _ _ (heap_setCell_same _ B 1 _ _ _ (heap_setCell_same _ B 0 _ _ _ h)))
theorem lastOf_succ {l : List (Nat × Nat)} {k : Nat} {p : Nat × Nat} (h : l[k]? = some p) : lastOf l (k + 1) = (p.2 : Int) := by
  unfold lastOf; simp [h]
theorem lastOf_lt {l : List (Nat × Nat)} (hap : l.Pairwise (fun p q => p.2 + 1 < q.1)) {k : Nat} {p : Nat × Nat} (h : l[k]? = some p) : lastOf l k + 1 < (p.1 : Int) := by
  unfold lastOf
  by_cases h0 : k = 0
  · rw [if_pos h0]; omega
  · rw [if_neg h0]
    obtain ⟨hk, e⟩ := List.getElem?_eq_some_iff.1 h
    have hk1 : k - 1 < l.length := by omega
    have := List.pairwise_iff_getElem.1 hap (k - 1) k hk1 hk (by omega)
    rw [List.getElem?_eq_getElem hk1, Option.getD_some, e] at *
    omega
theorem lastOf_bd {l : List (Nat × Nat)} (hbd : ∀ p ∈ l, p.1 ≤ p.2 ∧ p.2 ≤ 255) (k : Nat) : -2 ≤ lastOf l k ∧ lastOf l k ≤ 255 := by
  unfold lastOf
  split
  · omega
  · by_cases h : k - 1 < l.length
    · have := hbd _ (List.getElem_mem h)
      rw [List.getElem?_eq_getElem h, Option.getD_some]
      omega
    · rw [List.getElem?_eq_none (by omega)]
      simp

set_option maxRecDepth 100000 in
set_option maxHeartbeats 3200000 in
theorem spans_any (c : BitVec 256) (w : World) : Calls Try.prog 5 #[.agg #[.int .u64 (wd c 0), .int .u64 (wd c 1), .int .u64 (wd c 2), .int .u64 (wd c 3)]] w (Ans (.bool true) w) := by
  have f7 := guard_cl
  have f8 := equal_cl
  have hbd : ∀ p ∈ runs c, p.1 ≤ p.2 ∧ p.2 ≤ 255 := fun p hp => runs_bd hp
  have hap := runs_apart c
  have hun := Lib.hid (uni_runs c)
  have hlen : (runs c).length ≤ 257 := runs_len c 257 _
  generalize hl : runs c = l at *
  have hL := Lib.hid hl
  clear hl
  go_enter Try.func5, Try.ntmps5
  repeat (first | go_values | go_skip | go_guarded | go_step | go_upon)
  refine (small_any _).mono ?_
  rintro e w1 ⟨rfl, hb1⟩
  obtain ⟨hc1, hf1⟩ := bcell hb1
  have hz1 := hb1.size
  try simp at hz1
  have q1_0 : w.heap.size < w1.heap.size := by omega
  dsimp only
  repeat (first | go_values | go_skip | go_guarded | go_step | go_upon)
  refine (runs_any _ _).mono ?_
  rintro e w2 ⟨v, rfl, hown, hb2⟩
  rw [hL.out] at hown
  obtain ⟨hc2, hf2⟩ := bcell hb2
  have hz2 := hb2.size
  have q2 : w.heap.size < w2.heap.size := by omega
  dsimp only
  rcases owns_form hown with ⟨hn, hv⟩ | ⟨cap, hv⟩
  · subst hv
    obtain rfl : l = [] := List.eq_nil_of_length_eq_zero hn
    have hc0 : c = 0#256 := hun.out.symm
    subst hc0
    have hz := wd_zero
    have hee : ∀ w, (Op.equalIn 10000 24 (.agg #[.int .u64 0, .int .u64 0, .int .u64 0, .int .u64 0]) (.agg #[.int .u64 0, .int .u64 0, .int .u64 0, .int .u64 0])).run Try.prog w = .ok true w := fun w => by rw [equal_cl4]; rfl
    repeat (first | go_values | go_skip | go_guarded | go_step | go_upon)
    refine wp_loop_rounds 1 ?_
    rw [rounds_succ]
    repeat (first | go_values | go_skip | go_guarded | go_step | go_upon)
    go_ret
    exact ⟨rfl, (by repeat (first | exact Below.refl _ _ | assumption | refine bal ?_ _ | refine bdr ?_ | refine bdrn ?_ _ | (refine bset ?_ (by first | exact Nat.le_refl _ | (simp; done) | (simp; omega) | omega) _) | refine bstep ?_ (by assumption)))⟩
  · generalize (v.ownBlock).getD 0 = g at hv
    subst hv
    repeat (first | go_values | go_skip | go_guarded | go_step | go_upon)
    go_loopw [6, 7] (fun la t wr => ∃ k : Nat, k ≤ l.length ∧ t = .int .i64 k ∧ la = .int .i64 (lastOf l k) ∧ wr.heap[w2.heap.size]? = some (.cells #[.int .u64 (wd (uni (l.take k)) 0), .int .u64 (wd (uni (l.take k)) 1), .int .u64 (wd (uni (l.take k)) 2), .int .u64 (wd (uni (l.take k)) 3)] 24 (0, 0)) ∧ Below w2.heap.size w2 wr) (fun _ t _ => l.length - (intOf t).toNat)
    case atStart => exact ⟨0, Nat.zero_le _, rfl, rfl, by simp only [List.take_zero, uni, wd_zero]; exact heap_alloc_new _ _, (Below.refl _ _).alloc (Nat.le_refl _) _⟩
    case round =>
      obtain ⟨k, hk, rfl, rfl, hbox, hbr⟩ := hrel
      obtain ⟨cb, fb, zb⟩ := cells_at hbox
      obtain ⟨hcr, hfr⟩ := bcell hbr
      have hor := owns_below hown hbr
      have qr : w.heap.size < wr.heap.size := by omega
      by_cases hlt : k < l.length
      · obtain ⟨p, hp⟩ : ∃ p, l[k]? = some p := ⟨l[k], List.getElem?_eq_getElem hlt⟩
        have hpm := List.mem_of_getElem? hp
        have hp2 := hbd p hpm
        have hg := pairs_get l k p hp
        have c0 : wr.cell? ⟨g, k * 2, none⟩ = some (.int .i64 (p.1 : Int)) := by rw [hor.cellAt _ (by omega)]; exact hg.1
        have c1 : wr.cell? ⟨g, k * 2 + 1, none⟩ = some (.int .i64 (p.2 : Int)) := by rw [hor.cellAt _ (by omega)]; exact hg.2
        have gl : g < wr.heap.size := (hor.lt g rfl).2
        have gl2 : g < w2.heap.size := (hown.lt g rfl).2
        have mk : ∀ w', Below wr.heap.size wr w' → (Below wr.heap.size wr w' ∧ w'.cell? ⟨g, k * 2, none⟩ = some (.int .i64 (p.1 : Int)) ∧ w'.cell? ⟨g, k * 2 + 1, none⟩ = some (.int .i64 (p.2 : Int))) := fun w' h => ⟨h, (h.cell gl).trans c0, (h.cell gl).trans c1⟩
        have hla := lastOf_bd hbd k
        have hlb := lastOf_lt hap hp
        have hlc := Lib.hid (lastOf_succ hp)
        have hu := Lib.hid (uni_snoc (l.take k) p (fun q hq => by
          rw [List.mem_append] at hq
          rcases hq with hq | hq
          · exact (hbd q (List.mem_of_mem_take hq)).2
          · simp at hq; rw [hq]; exact hp2.2))
        have ht : l.take (k + 1) = l.take k ++ [p] := by
          rw [List.take_succ_eq_append_getElem hlt]
          congr 2
          exact Option.some.inj ((List.getElem?_eq_getElem hlt).symm.trans hp)
        have hT := Lib.hid ht
        have d1 : decide ((p.1 : Int) ≤ lastOf l k + 1) = false := by simp; omega
        clear hbd hap hg hpm ht
        repeat (first | go_values | go_skip | go_guarded | go_step | go_upon)
        go_region_held3 (fun w' => Below wr.heap.size wr w' ∧ w'.cell? ⟨g, k * 2, none⟩ = some (.int .i64 (p.1 : Int)) ∧ w'.cell? ⟨g, k * 2 + 1, none⟩ = some (.int .i64 (p.2 : Int))) ((go_split_ands; refine mk _ ?_; exact (by repeat (first | exact Below.refl _ _ | assumption | refine bal ?_ _ | refine bdr ?_ | refine bdrn ?_ _ | (refine bset ?_ (by first | exact Nat.le_refl _ | (simp; done) | (simp; omega) | omega) _) | refine bstep ?_ (by assumption))))) ((go_at_call 16; refine (range_yes _ _ _ (by omega) (by omega) (by omega)).mono ?_; rintro e w3 ⟨rfl, hb3⟩; obtain ⟨hc3, hf3⟩ := bcell hb3; have hz3 := hb3.size; simp at hz3; try have q3 : wr.heap.size < w3.heap.size := by omega))
        all_goals
          go_split_ands
          have qa : w2.heap.size < w3.heap.size := by omega
          have hS3 : Below wr.heap.size wr w3 := (by repeat (first | exact Below.refl _ _ | assumption | refine bal ?_ _ | refine bdr ?_ | refine bdrn ?_ _ | (refine bset ?_ (by first | exact Nat.le_refl _ | (simp; done) | (simp; omega) | omega) _) | refine bstep ?_ (by assumption)))
          have cb3 : ∀ j, w3.cell? ⟨w2.heap.size, j, none⟩ = #[.int .u64 (wd (uni (l.take k)) 0), .int .u64 (wd (uni (l.take k)) 1), .int .u64 (wd (uni (l.take k)) 2), .int .u64 (wd (uni (l.take k)) 3)][j]? := fun j => (hS3.cell zb).trans (cb j)
          repeat (first | go_values | go_skip | go_guarded | go_step | go_upon)
          refine (either_any _ _ _).mono ?_
          rintro e w4 ⟨rfl, hb4⟩
          have hS4 : Below wr.heap.size wr w4 := (by repeat (first | exact Below.refl _ _ | assumption | refine bal ?_ _ | refine bdr ?_ | refine bdrn ?_ _ | (refine bset ?_ (by first | exact Nat.le_refl _ | (simp; done) | (simp; omega) | omega) _) | refine bstep ?_ (by assumption)))
          have cb4 : ∀ j, w4.cell? ⟨w2.heap.size, j, none⟩ = #[.int .u64 (wd (uni (l.take k)) 0), .int .u64 (wd (uni (l.take k)) 1), .int .u64 (wd (uni (l.take k)) 2), .int .u64 (wd (uni (l.take k)) 3)][j]? := fun j => (hS4.cell zb).trans (cb j)
          have fb4 : ∀ j, w4.frozen? ⟨w2.heap.size, j, none⟩ = false := fun j => (hS4.frozen (p := ⟨w2.heap.size, j, none⟩) zb).trans (fb j)
          have c14 : w4.cell? ⟨g, k * 2 + 1, none⟩ = some (.int .i64 (p.2 : Int)) := (hS4.cell gl).trans c1
          have gne : g ≠ w2.heap.size := by omega
          dsimp only
          repeat (first | go_values | go_skip | go_guarded | go_step | go_upon)
          refine ⟨⟨k + 1, by omega, by go_num, by rw [hlc.out], ?_, (by repeat (first | exact Below.refl _ _ | assumption | refine bal ?_ _ | refine bdr ?_ | refine bdrn ?_ _ | (refine bset ?_ (by first | exact Nat.le_refl _ | (simp; done) | (simp; omega) | omega) _) | refine bstep ?_ (by assumption)))⟩, by simp [intOf]; omega⟩
          rw [hT.out, hu.out]
          exact set4 ((hS4.block _ zb).trans hbox)
      · have e : uni (l.take k) = c := by rw [List.take_of_length_le (by omega)]; exact hun.out
        rw [e] at hbox
        obtain ⟨cb2, fb2, zb2⟩ := cells_at hbox
        clear cb fb e hbd hap
        repeat (first | go_values | go_skip | go_guarded | go_step | go_upon)
        go_ret
        exact ⟨rfl, (by repeat (first | exact Below.refl _ _ | assumption | refine bal ?_ _ | refine bdr ?_ | refine bdrn ?_ _ | (refine bset ?_ (by first | exact Nat.le_refl _ | (simp; done) | (simp; omega) | omega) _) | refine bstep ?_ (by assumption)))⟩
end Go.Proofs.Ytfnbdpigpeonmaa
