/- The walk of ClassRuns. -/
import Derived.Test.YtfnbdpigpeonmaaSmall
import Derived.Test.YtfnbdpigpeonmaaTxtW
import Derived.Test.YtfnbdpigpeonmaaTxtR
import Derived.Test.YtfnbdpigpeonmaaSameW
import Derived.OneCell
namespace Go.Proofs.Ytfnbdpigpeonmaa
open Go.RowKit Go.Sort

set_option maxRecDepth 100000 in
set_option maxHeartbeats 3200000 in
theorem runslaw_any (c : BitVec 256) (w : World) : Calls Try.prog 6 #[.agg #[.int .u64 (wd c 0), .int .u64 (wd c 1), .int .u64 (wd c 2), .int .u64 (wd c 3)]] w (Ans (.bool true) w) := by
  have hlen : (runs c).length ≤ 257 := runs_len c 257 _
  have hL : Hid (runs c = runs c) := Lib.hid rfl
  generalize hl : runs c = l at hlen
  clear hL
  have hL := Lib.hid hl
  clear hl
  generalize hn : l.length = n at hlen
  go_enter Try.func6, Try.ntmps6
  repeat (first | go_values | go_skip | go_guarded | go_step | go_upon)
  refine (small_any _).mono ?_
  rintro e w1 ⟨rfl, hb1⟩
  obtain ⟨hc1, hf1⟩ := bcell hb1
  have hz1 := hb1.size
  try simp at hz1
  have q1_0 : w.heap.size < w1.heap.size := by omega
  dsimp only
  repeat (first | go_values | go_skip | go_guarded | go_step | go_upon)
  refine (runs_any _ _).mono ?_
  rintro e w2 ⟨v1, rfl, o2, hb2⟩
  rw [hL.out, hn] at o2
  obtain ⟨hc2, hf2⟩ := bcell hb2
  have hz2 := hb2.size
  have q2 : w.heap.size < w2.heap.size := by omega
  dsimp only
  repeat (first | go_values | go_skip | go_guarded | go_step | go_upon)
  refine (runs_any _ _).mono ?_
  rintro e w3 ⟨v2, rfl, p3, hb3⟩
  rw [hL.out, hn] at p3
  have o3 := owns_below o2 hb3
  obtain ⟨hc3, hf3⟩ := bcell hb3
  have hz3 := hb3.size
  have q3 : w.heap.size < w3.heap.size := by omega
  dsimp only
  repeat (first | go_values | go_skip | go_guarded | go_step | go_upon)
  refine (rruns_any _ _).mono ?_
  rintro e w4 ⟨v3, rfl, r4, hb4⟩
  rw [hL.out, hn] at r4
  have o4 := owns_below o3 hb4
  have p4 := owns_below p3 hb4
  obtain ⟨hc4, hf4⟩ := bcell hb4
  have hz4 := hb4.size
  have q4 : w.heap.size < w4.heap.size := by omega
  dsimp only
  repeat (first | go_values | go_skip | go_guarded | go_step | go_upon)
  refine (same_any l n _ _ _ _ _ hlen hn o4 r4).mono ?_
  rintro e w5 ⟨rfl, hb5⟩
  have o5 := owns_below o4 hb5
  have p5 := owns_below p4 hb5
  have r5 := owns_below r4 hb5
  have hz5 := hb5.size
  obtain ⟨hc5, hf5⟩ := bcell hb5
  dsimp only
  have hT5 : Below w1.heap.size w1 w5 := bstep (bstep (bstep hb2 hb3) hb4) hb5
  have cB : ∀ j, w1.cell? ⟨w.heap.size, j, none⟩ = (#[.int .u64 (wd c 0), .int .u64 (wd c 1), .int .u64 (wd c 2), .int .u64 (wd c 3)] : Array Value)[j]? := fun j => (hb1.cell (p := ⟨w.heap.size, j, none⟩) (by simp)).trans (by go_simp)
  rcases owns_form2 o5 with ⟨hn0, hv⟩ | ⟨g, cap, hv⟩
  · subst hv
    have HN := Lib.hid hn0
    clear hc2 hf2 hc3 hf3 hc4 hf4 hc5 hf5 hn0
    have cC : ∀ j, w5.cell? ⟨w.heap.size, j, none⟩ = (#[.int .u64 (wd c 0), .int .u64 (wd c 1), .int .u64 (wd c 2), .int .u64 (wd c 3)] : Array Value)[j]? := fun j => (hT5.cell (p := ⟨w.heap.size, j, none⟩) q1_0).trans (cB j)
    repeat (first | go_values | go_skip | go_guarded | go_step | go_upon)
    refine wp_loop_rounds 1 ?_
    rw [rounds_succ]
    repeat (first | go_values | go_skip | go_guarded | go_step | go_upon)
    refine (same_any l n _ _ _ _ _ hlen hn p5 r5).mono ?_
    rintro e w6 ⟨rfl, hb6⟩
    obtain ⟨hc6, hf6⟩ := bcell hb6
    have hz6 := hb6.size
    have q6 : w.heap.size < w5.heap.size := by omega
    have q66 : w.heap.size < w6.heap.size := by omega
    dsimp only
    repeat (first | go_values | go_skip | go_guarded | go_step | go_upon)
    have hG := grown_cell
    have g7_0 : w.heap.size < w6.heap.size := by omega
    refine wp_region_qb (by kernel_rfl) (by kernel_rfl) ?_
    repeat (quiet_step (first | (with_reducible exact ans_quiet (text_any _ _)) | (with_reducible exact ans_quiet (rtext_any _ _))))
    refine wpQuiet_nil ?_
    intro w7 hb7
    clear hG
    obtain ⟨hc7, hf7⟩ := bcell hb7
    have hz7 := hb7.size
    try simp at hz7
    have q7_0 : w.heap.size < w7.heap.size := by omega
    repeat (first | go_values | go_skip | go_guarded | go_step | go_upon)
    go_ret
    exact ⟨rfl, (by repeat (first | exact Below.refl _ _ | assumption | refine bal ?_ _ | refine bdr ?_ | refine bdrn ?_ _ | (refine bset ?_ (by first | exact Nat.le_refl _ | (simp; done) | (simp; omega) | omega) _) | refine bstep ?_ (by assumption)))⟩
  · subst hv
    have gl : w1.heap.size ≤ g := (o2.lt g rfl).1
    have gg : g < w2.heap.size := (o2.lt g rfl).2
    clear hc2 hf2 hc3 hf3 hc4 hf4 hc5 hf5
    repeat (first | go_values | go_skip | go_guarded | go_step | go_upon)
    go_loopw [8] (fun t wr => ∃ k : Nat, k ≤ n ∧ t = .int .i64 k ∧ (∃ xs, wr.ownsRow w1.heap.size 37 2 (.slice (some ⟨g, 0, none⟩) n cap) n xs) ∧ wr.ownsRow w2.heap.size 37 2 v2 n (pairs l) ∧ wr.ownsRow w3.heap.size 37 2 v3 n (pairs l) ∧ w5.heap.size ≤ wr.heap.size ∧ Below w1.heap.size w1 wr) (fun t _ => n - (intOf t).toNat)
    case atStart => exact ⟨0, Nat.zero_le _, rfl, ⟨_, o5⟩, p5, r5, Nat.le_refl _, hT5⟩
    case round =>
      obtain ⟨k, hk, rfl, ⟨xs, ox⟩, px, rx, hzr, hbr⟩ := hrel
      by_cases hlt : k < n
      · have hx1 : k * 2 < xs.length := by rw [ox.1]; omega
        have hx2 : k * 2 + 1 < xs.length := by rw [ox.1]; omega
        have c0 : wr.cell? ⟨g, k * 2, none⟩ = some xs[k * 2] := by rw [ox.cellAt _ (by omega)]; exact List.getElem?_eq_getElem hx1
        have c1 : wr.cell? ⟨g, k * 2 + 1, none⟩ = some xs[k * 2 + 1] := by rw [ox.cellAt _ (by omega)]; exact List.getElem?_eq_getElem hx2
        have fz : ∀ j, wr.frozen? ⟨g, j, none⟩ = false := fun j => ox.frozenAt j
        repeat (first | go_values | go_skip | go_guarded | go_step | go_upon)
        have n2 : v2.ownBlock ≠ some g := fun e => by have := (px.lt g e).1; omega
        have n3 : v3.ownBlock ≠ some g := fun e => by have := (rx.lt g e).1; omega
        refine ⟨⟨k + 1, by omega, by go_num, ⟨_, ((ox.stored (k * 2) _).1.stored (k * 2 + 1) _).1⟩, ?_, ?_, by simpa using hzr, (hbr.setCell gl _).setCell gl _⟩, by simp [intOf]; omega⟩
        · exact ownsRow_setCell_other (ownsRow_setCell_other px n2 _) n2 _
        · exact ownsRow_setCell_other (ownsRow_setCell_other rx n3 _) n3 _
      · have hkn := Lib.hid (show k = n by omega)
        have cC : ∀ j, wr.cell? ⟨w.heap.size, j, none⟩ = (#[.int .u64 (wd c 0), .int .u64 (wd c 1), .int .u64 (wd c 2), .int .u64 (wd c 3)] : Array Value)[j]? := fun j => (hbr.cell (p := ⟨w.heap.size, j, none⟩) q1_0).trans (cB j)
        repeat (first | go_values | go_skip | go_guarded | go_step | go_upon)
        refine (same_any l n _ _ _ _ _ hlen hn px rx).mono ?_
        rintro e w6 ⟨rfl, hb6⟩
        obtain ⟨hc6, hf6⟩ := bcell hb6
        have hz6 := hb6.size
        have q6 : w.heap.size < wr.heap.size := by omega
        have q66 : w.heap.size < w6.heap.size := by omega
        dsimp only
        repeat (first | go_values | go_skip | go_guarded | go_step | go_upon)
        have hG := grown_cell
        have g7_0 : w.heap.size < w6.heap.size := by omega
        refine wp_region_qb (by kernel_rfl) (by kernel_rfl) ?_
        repeat (quiet_step (first | (with_reducible exact ans_quiet (text_any _ _)) | (with_reducible exact ans_quiet (rtext_any _ _))))
        refine wpQuiet_nil ?_
        intro w7 hb7
        clear hG
        obtain ⟨hc7, hf7⟩ := bcell hb7
        have hz7 := hb7.size
        try simp at hz7
        have q7_0 : w.heap.size < w7.heap.size := by omega
        repeat (first | go_values | go_skip | go_guarded | go_step | go_upon)
        go_ret
        exact ⟨rfl, (by repeat (first | exact Below.refl _ _ | assumption | refine bal ?_ _ | refine bdr ?_ | refine bdrn ?_ _ | (refine bset ?_ (by first | exact Nat.le_refl _ | (simp; done) | (simp; omega) | omega) _) | refine bstep ?_ (by assumption)))⟩
end Go.Proofs.Ytfnbdpigpeonmaa
