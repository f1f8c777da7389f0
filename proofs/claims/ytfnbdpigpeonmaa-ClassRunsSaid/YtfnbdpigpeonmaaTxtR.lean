/- The walk of the document's Text. -/
import Derived.Test.YtfnbdpigpeonmaaRefRW
import Derived.Test.YtfnbdpigpeonmaaSgnR
import Derived.Test.YtfnbdpigpeonmaaTxtP
import Derived.Test.YtfnbdpigpeonmaaSpansP
namespace Go.Proofs.Ytfnbdpigpeonmaa
open Go.RowKit Go.Sort

set_option maxRecDepth 100000 in
set_option maxHeartbeats 3200000 in
theorem rtext_any (c : BitVec 256) (w : World) : Calls Try.prog 20 #[.agg #[.int .u64 (wd c 0), .int .u64 (wd c 1), .int .u64 (wd c 2), .int .u64 (wd c 3)]] w (Ans (.string ⟨(txt c).toArray⟩) w) := by
  have hbd : ∀ p ∈ runs c, p.1 ≤ p.2 ∧ p.2 ≤ 255 := fun p hp => runs_bd hp
  have hlen : (runs c).length ≤ 257 := runs_len c 257 _
  have ht : Hid (txt c = txK (runs c) (runs c).length ++ [93]) := Lib.hid rfl
  generalize hl : runs c = l at *
  have hL := Lib.hid hl
  clear hl
  go_enter Try.func20, Try.ntmps20
  repeat (first | go_values | go_skip | go_guarded | go_step | go_upon)
  refine (rruns_any _ _).mono ?_
  rintro e w2 ⟨v, rfl, hown, hb2⟩
  rw [hL.out] at hown
  obtain ⟨hc2, hf2⟩ := bcell hb2
  have hz2 := hb2.size
  simp at hz2
  have q2 : w.heap.size < w2.heap.size := by omega
  dsimp only
  generalize hn : l.length = n at *
  rcases owns_form2 hown with ⟨hn0, hv⟩ | ⟨g, cap, hv⟩
  · subst hv
    subst hn0
    repeat (first | go_values | go_skip | go_guarded | go_step | go_upon)
    refine wp_loop_rounds 1 ?_
    rw [rounds_succ]
    repeat (first | go_values | go_skip | go_guarded | go_step | go_upon)
    go_ret
    refine ⟨?_, (by repeat (first | exact Below.refl _ _ | assumption | refine bal ?_ _ | refine bdr ?_ | refine bdrn ?_ _ | (refine bset ?_ (by first | exact Nat.le_refl _ | (simp; done) | (simp; omega) | omega) _) | refine bstep ?_ (by assumption)))⟩
    rw [ht.out]
    rfl
  · subst hv
    repeat (first | go_values | go_skip | go_guarded | go_step | go_upon)
    go_loopw [3, 5] (fun o t wr => ∃ k : Nat, k ≤ n ∧ t = .int .i64 k ∧ o = .string ⟨(txK l k).toArray⟩ ∧ Below w2.heap.size w2 wr) (fun _ t _ => n - (intOf t).toNat)
    case atStart => exact ⟨0, Nat.zero_le _, rfl, rfl, Below.refl _ _⟩
    case round =>
      obtain ⟨k, hk, rfl, rfl, hbr⟩ := hrel
      obtain ⟨hcr, hfr⟩ := bcell hbr
      have hor := owns_below hown hbr
      by_cases hlt : k < n
      · obtain ⟨p, hp⟩ : ∃ p, l[k]? = some p := ⟨l[k], List.getElem?_eq_getElem (by omega)⟩
        have hpm := List.mem_of_getElem? hp
        have hp2 := hbd p hpm
        have hg := pairs_get l k p hp
        have c0 : wr.cell? ⟨g, k * 2, none⟩ = some (.int .i64 (p.1 : Int)) := by rw [hor.cellAt _ (by omega)]; exact hg.1
        have c1 : wr.cell? ⟨g, k * 2 + 1, none⟩ = some (.int .i64 (p.2 : Int)) := by rw [hor.cellAt _ (by omega)]; exact hg.2
        have gl : g < wr.heap.size := (hor.lt g rfl).2
        have hsu := Lib.hid (txK_succ hp)
        have hk9 := txK_len l k
        have s1 := sgn_len p.1
        have s2 := sgn_len p.2
        clear hbd hg hpm hp hown
        have hkk : p.2 = p.1 ∨ p.2 = p.1 + 1 ∨ p.1 + 1 < p.2 := by omega
        rcases hkk with hkk | hkk | hkk
        · have hx := Lib.hid (tx_a (txK l k) p hkk)
          have d1 : decide ((p.1 : Int) + 1 < p.2) = false := by simp; omega
          have d2 : decide (p.1 < p.2) = false := by simp; omega
          clear hkk
          repeat (first | go_values | go_skip | go_guarded | go_step | go_upon)
          refine (rsign_any p.1 _ (by omega)).mono ?_
          rintro e w3 ⟨rfl, hb3⟩
          obtain ⟨hc3, hf3⟩ := bcell hb3
          have hz3 := hb3.size
          try simp at hz3
          have q3_0 : g < w3.heap.size := by omega
          dsimp only
          repeat (first | go_values | go_skip | go_guarded | go_step | go_upon)
          go_region
          repeat (first | go_values | go_skip | go_guarded | go_step | go_upon)
          go_region
          repeat (first | go_values | go_skip | go_guarded | go_step | go_upon)
          refine ⟨⟨k + 1, by omega, by go_num, ?_, (by repeat (first | exact Below.refl _ _ | assumption | refine bal ?_ _ | refine bdr ?_ | refine bdrn ?_ _ | (refine bset ?_ (by first | exact Nat.le_refl _ | (simp; done) | (simp; omega) | omega) _) | refine bstep ?_ (by assumption)))⟩, by simp [intOf]; omega⟩
          rw [hsu.out, ← hx.out]
        · have hx := Lib.hid (tx_b (txK l k) p hkk)
          have d1 : decide ((p.1 : Int) + 1 < p.2) = false := by simp; omega
          have d2 : decide (p.1 < p.2) = true := by simp; omega
          clear hkk
          repeat (first | go_values | go_skip | go_guarded | go_step | go_upon)
          refine (rsign_any p.1 _ (by omega)).mono ?_
          rintro e w3 ⟨rfl, hb3⟩
          obtain ⟨hc3, hf3⟩ := bcell hb3
          have hz3 := hb3.size
          try simp at hz3
          have q3_0 : g < w3.heap.size := by omega
          dsimp only
          repeat (first | go_values | go_skip | go_guarded | go_step | go_upon)
          go_region
          repeat (first | go_values | go_skip | go_guarded | go_step | go_upon)
          go_region
          repeat (first | go_values | go_skip | go_guarded | go_step | go_upon)
          refine (rsign_any p.2 _ (by omega)).mono ?_
          rintro e w4 ⟨rfl, hb4⟩
          obtain ⟨hc4, hf4⟩ := bcell hb4
          have hz4 := hb4.size
          try simp at hz4
          have q4_0 : g < w4.heap.size := by omega
          dsimp only
          repeat (first | go_values | go_skip | go_guarded | go_step | go_upon)
          refine ⟨⟨k + 1, by omega, by go_num, ?_, (by repeat (first | exact Below.refl _ _ | assumption | refine bal ?_ _ | refine bdr ?_ | refine bdrn ?_ _ | (refine bset ?_ (by first | exact Nat.le_refl _ | (simp; done) | (simp; omega) | omega) _) | refine bstep ?_ (by assumption)))⟩, by simp [intOf]; omega⟩
          rw [hsu.out, ← hx.out]
        · have hx := Lib.hid (tx_c (txK l k) p hkk)
          have d1 : decide ((p.1 : Int) + 1 < p.2) = true := by simp; omega
          have d2 : decide (p.1 < p.2) = true := by simp; omega
          clear hkk
          repeat (first | go_values | go_skip | go_guarded | go_step | go_upon)
          refine (rsign_any p.1 _ (by omega)).mono ?_
          rintro e w3 ⟨rfl, hb3⟩
          obtain ⟨hc3, hf3⟩ := bcell hb3
          have hz3 := hb3.size
          try simp at hz3
          have q3_0 : g < w3.heap.size := by omega
          dsimp only
          repeat (first | go_values | go_skip | go_guarded | go_step | go_upon)
          go_region
          repeat (first | go_values | go_skip | go_guarded | go_step | go_upon)
          go_region
          repeat (first | go_values | go_skip | go_guarded | go_step | go_upon)
          refine (rsign_any p.2 _ (by omega)).mono ?_
          rintro e w4 ⟨rfl, hb4⟩
          obtain ⟨hc4, hf4⟩ := bcell hb4
          have hz4 := hb4.size
          try simp at hz4
          have q4_0 : g < w4.heap.size := by omega
          dsimp only
          repeat (first | go_values | go_skip | go_guarded | go_step | go_upon)
          refine ⟨⟨k + 1, by omega, by go_num, ?_, (by repeat (first | exact Below.refl _ _ | assumption | refine bal ?_ _ | refine bdr ?_ | refine bdrn ?_ _ | (refine bset ?_ (by first | exact Nat.le_refl _ | (simp; done) | (simp; omega) | omega) _) | refine bstep ?_ (by assumption)))⟩, by simp [intOf]; omega⟩
          rw [hsu.out, ← hx.out]
      · have hk9 := txK_len l k
        have hkn := Lib.hid (show k = n by omega)
        repeat (first | go_values | go_skip | go_guarded | go_step | go_upon)
        go_ret
        refine ⟨?_, (by repeat (first | exact Below.refl _ _ | assumption | refine bal ?_ _ | refine bdr ?_ | refine bdrn ?_ _ | (refine bset ?_ (by first | exact Nat.le_refl _ | (simp; done) | (simp; omega) | omega) _) | refine bstep ?_ (by assumption)))⟩
        rw [ht.out, hkn.out, show (⟨#[93]⟩ : ByteArray) = ⟨[93].toArray⟩ from rfl]
        exact ret_val (congrArg Value.string (ba_app _ _))
end Go.Proofs.Ytfnbdpigpeonmaa
