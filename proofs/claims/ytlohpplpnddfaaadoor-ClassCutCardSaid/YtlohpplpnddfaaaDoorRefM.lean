/- The walk of the document's Mix. -/
import Derived.Test.YtlohpplpnddfaaaDoorRefC
namespace Go.Proofs.YtlohpplpnddfaaaDoor
open Go.RowKit Go.Sort
set_option maxRecDepth 100000 in
set_option maxHeartbeats 6400000 in
theorem mix_any (kind : Int) (c d : BitVec 256) (w : World) (hkind : kind = 0 ∨ kind = 1 ∨ kind = 2) :
    Calls Tryd.prog 28 #[.int .i64 kind, .agg #[.int .u64 (wd c 0), .int .u64 (wd c 1), .int .u64 (wd c 2), .int .u64 (wd c 3)], .agg #[.int .u64 (wd d 0), .int .u64 (wd d 1), .int .u64 (wd d 2), .int .u64 (wd d 3)]] w (Ans (.agg #[.int .u64 (wd (mixed kind c d) 0), .int .u64 (wd (mixed kind c d) 1), .int .u64 (wd (mixed kind c d) 2), .int .u64 (wd (mixed kind c d) 3)]) w) := by
  have hm := Lib.hid (has_mixed kind c d)
  have hall := Lib.hid (below_all (mixed kind c d))
  generalize hmm : mixed kind c d = m at *
  have hyes := fun k hk h => Lib.hid (below_yes m k hk h)
  have hno := fun k hk h => Lib.hid (below_no m k hk h)
  clear hmm
  go_enter Tryd.func28, Tryd.ntmps28
  repeat (first | go_values | go_skip | go_guarded | go_step | go_upon)
  go_loopw [8] (fun t wr => ∃ k : Nat, k ≤ 256 ∧ t = .int .i64 k ∧ wr.heap[w.heap.size + 1 + 1 + 1]? = some (.cells #[.int .u64 (wd (below m k) 0), .int .u64 (wd (below m k) 1), .int .u64 (wd (below m k) 2), .int .u64 (wd (below m k) 3)] 24 (0, 0)) ∧ Below (w.heap.size + 1 + 1 + 1) (((w.alloc (.cells #[.int .u64 (wd c 0), .int .u64 (wd c 1), .int .u64 (wd c 2), .int .u64 (wd c 3)] 24)).alloc (.cells #[.int .u64 (wd d 0), .int .u64 (wd d 1), .int .u64 (wd d 2), .int .u64 (wd d 3)] 24)).alloc (.cells #[.int .u64 0, .int .u64 0, .int .u64 0, .int .u64 0] 24)) wr) (fun t _ => 256 - (intOf t).toNat)
  case atStart =>
    refine ⟨0, by omega, rfl, ?_, ?_⟩
    · rw [show below m 0 = 0#256 from if_pos rfl]
      simp only [wd_zero]
      rw [show w.heap.size + 1 + 1 + 1 = (((w.alloc (.cells #[.int .u64 (wd c 0), .int .u64 (wd c 1), .int .u64 (wd c 2), .int .u64 (wd c 3)] 24)).alloc (.cells #[.int .u64 (wd d 0), .int .u64 (wd d 1), .int .u64 (wd d 2), .int .u64 (wd d 3)] 24)).alloc (.cells #[.int .u64 0, .int .u64 0, .int .u64 0, .int .u64 0] 24)).heap.size by simp]
      exact heap_alloc_new _ _
    · exact (Below.refl _ _).alloc (by simp <;> omega) _
  case round =>
    obtain ⟨k, hk, rfl, hbox, hb⟩ := hrel
    obtain ⟨cb, fb, zb⟩ := cells_at' hbox
    have c0 : ∀ j, wr.cell? ⟨w.heap.size, j, none⟩ = (#[.int .u64 (wd c 0), .int .u64 (wd c 1), .int .u64 (wd c 2), .int .u64 (wd c 3)] : Array Value)[j]? := fun j => (hb.cell (p := ⟨w.heap.size, j, none⟩) (by simp <;> omega)).trans (by go_simp)
    have c1 : ∀ j, wr.cell? ⟨w.heap.size + 1, j, none⟩ = (#[.int .u64 (wd d 0), .int .u64 (wd d 1), .int .u64 (wd d 2), .int .u64 (wd d 3)] : Array Value)[j]? := fun j => (hb.cell (p := ⟨w.heap.size + 1, j, none⟩) (by simp <;> omega)).trans (by go_simp)
    have c2 : ∀ j, wr.cell? ⟨w.heap.size + 1 + 1, j, none⟩ = (#[.int .u64 0, .int .u64 0, .int .u64 0, .int .u64 0] : Array Value)[j]? := fun j => (hb.cell (p := ⟨w.heap.size + 1 + 1, j, none⟩) (by simp <;> omega)).trans (by go_simp)
    have f2 : ∀ j, wr.frozen? ⟨w.heap.size + 1 + 1, j, none⟩ = false := fun j => (hb.frozen (p := ⟨w.heap.size + 1 + 1, j, none⟩) (by simp <;> omega)).trans (by go_simp)
    have qr : w.heap.size < wr.heap.size := by omega
    have qr1 : w.heap.size + 1 < wr.heap.size := by omega
    have qr2 : w.heap.size + 1 + 1 < wr.heap.size := by omega
    by_cases hlt : k < 256
    · have hmk := hm.out k hlt
      clear hm hall
      rcases hkind with rfl | rfl | rfl
      all_goals
        cases h1 : Has c k
        all_goals
          cases h2 : Has d k
          all_goals
            rw [h1, h2] at hmk
            simp at hmk
            have HM := Lib.hid hmk
            clear hmk
            repeat (first | go_values | go_skip | go_guarded | go_step | go_upon)
            refine (rhas_b c k _ _ hlt h1).mono ?_
            rintro e w1 ⟨rfl, hb1⟩
            obtain ⟨hc1, hf1⟩ := bcell hb1
            have hz1 := hb1.size
            try simp at hz1
            have q1_0 : w.heap.size < w1.heap.size := by omega
            have q1_1 : w.heap.size + 1 < w1.heap.size := by omega
            have q1_2 : w.heap.size + 1 + 1 + 1 < w1.heap.size := by omega
            dsimp only
            repeat (first | go_values | go_skip | go_guarded | go_step | go_upon)
            refine (rhas_b d k _ _ hlt h2).mono ?_
            rintro e w2 ⟨rfl, hb2⟩
            obtain ⟨hc2, hf2⟩ := bcell hb2
            have hz2 := hb2.size
            try simp at hz2
            have q2_0 : w.heap.size < w2.heap.size := by omega
            have q2_1 : w.heap.size + 1 < w2.heap.size := by omega
            have q2_2 : w.heap.size + 1 + 1 + 1 < w2.heap.size := by omega
            dsimp only
            have hb2' : Below wr.heap.size wr w2 := bstep (bstep (Below.refl _ _) hb1) hb2
            have hbox2 := (hb2'.block _ zb).trans hbox
            obtain ⟨cb2, fb2, zb2⟩ := cells_at' hbox2
            first
              | (have hst := hyes k hlt HM.out
                 clear hyes hno
                 repeat (first | go_values | go_skip | go_guarded | go_step | go_upon)
                 refine (with_any (below m k) k _ hlt).mono ?_
                 rintro e w3 ⟨rfl, hb3⟩
                 obtain ⟨hc3, hf3⟩ := bcell hb3
                 have hz3 := hb3.size
                 try simp at hz3
                 have q3_0 : w.heap.size < w3.heap.size := by omega
                 have q3_1 : w.heap.size + 1 < w3.heap.size := by omega
                 have q3_2 : w.heap.size + 1 + 1 + 1 < w3.heap.size := by omega
                 dsimp only
                 have hb3' : Below wr.heap.size wr w3 := bstep hb2' hb3
                 have hbox3 := (hb3'.block _ zb).trans hbox
                 obtain ⟨cb3, fb3, zb3⟩ := cells_at' hbox3
                 repeat (first | go_values | go_skip | go_guarded | go_step | go_upon)
                 refine ⟨⟨k + 1, by omega, by go_num, ?_, ?_⟩, by simp [intOf]; omega⟩
                 · rw [← hst.out]; exact set4' hbox3
                 · exact ((((hb.trans (hb3'.mono (by omega))).setCell (by simp <;> omega) _).setCell (by simp <;> omega) _).setCell (by simp <;> omega) _).setCell (by simp <;> omega) _)
              | (have hst := hno k hlt HM.out
                 clear hyes hno
                 repeat (first | go_values | go_skip | go_guarded | go_step | go_upon)
                 refine ⟨⟨k + 1, by omega, by go_num, ?_, ?_⟩, by simp [intOf]; omega⟩
                 · rw [← hst.out]; exact hbox2
                 · exact hb.trans (hb2'.mono (by omega)))
    · obtain rfl : k = 256 := by omega
      have hu := hall.out
      rw [hu] at cb
      clear hu hbox hm hall hyes hno
      repeat (first | go_values | go_skip | go_guarded | go_step | go_upon)
      refine bodyPost_ret (v := .agg #[.int .u64 (wd m 0), .int .u64 (wd m 1), .int .u64 (wd m 2), .int .u64 (wd m 3)]) (by simp [results, Tryd.results28, go_sem, c2]) rfl ⟨rfl, ?_⟩
      have hb2 : Below w.heap.size w wr := (((((Below.refl _ _).alloc (Nat.le_refl _) _).alloc (by simp <;> omega) _).alloc (by simp; omega) _).trans (hb.mono (by omega)))
      exact (((hb2.setCell (by simp <;> omega) _).setCell (by simp <;> omega) _).setCell (by simp <;> omega) _).setCell (by simp <;> omega) _
end Go.Proofs.YtlohpplpnddfaaaDoor
