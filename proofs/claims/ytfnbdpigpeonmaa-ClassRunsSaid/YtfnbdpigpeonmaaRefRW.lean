/- The walk of the document's Runs. -/
import Derived.Test.YtfnbdpigpeonmaaRefH
import Derived.Test.YtfnbdpigpeonmaaRefRP
import Derived.Test.YtfnbdpigpeonmaaRunsW
namespace Go.Proofs.Ytfnbdpigpeonmaa
open Go.RowKit Go.Sort

theorem owns_form2 {w : World} {base : Nat} {e : TypeId} {size : Nat} {v : Value} {n : Nat} {xs : List Value} (h : w.ownsRow base e size v n xs) : (n = 0 ∧ v = .slice none 0 0) ∨ (∃ g cap, v = .slice (some ⟨g, 0, none⟩) n cap) := by
  rcases owns_form h with h | ⟨cap, h⟩
  · exact .inl h
  · exact .inr ⟨_, cap, h⟩
set_option maxRecDepth 100000 in
set_option maxHeartbeats 3200000 in
theorem rruns_any (c : BitVec 256) (w : World) : Calls Try.prog 17 #[.agg #[.int .u64 (wd c 0), .int .u64 (wd c 1), .int .u64 (wd c 2), .int .u64 (wd c 3)]] w (AnsRow 37 2 (runs c).length (pairs (runs c)) w) := by
  obtain ⟨i0, iH, iz, is, ib⟩ := info_parts info_pair
  have hend := Lib.hid (rowsTo_runs c)
  go_enter Try.func17, Try.ntmps17
  repeat (first | go_values | go_skip | go_guarded | go_step | go_upon)
  go_loopw [3, 4] (fun v t wr => ∃ k : Nat, t = .int .i64 k ∧ k ≤ 256 ∧ wr.ownsRow (w.heap.size + 1) 37 2 v (rowsTo c k).length (pairs (rowsTo c k)) ∧ Below (w.alloc (.cells #[.int .u64 (wd c 0), .int .u64 (wd c 1), .int .u64 (wd c 2), .int .u64 (wd c 3)] 24)).heap.size (w.alloc (.cells #[.int .u64 (wd c 0), .int .u64 (wd c 1), .int .u64 (wd c 2), .int .u64 (wd c 3)] 24)) wr) (fun _ t _ => 256 - (intOf t).toNat)
  case atStart => exact ⟨0, rfl, by decide, World.ownsRow_nil _ _ _ _, Below.refl _ _⟩
  case round =>
    obtain ⟨k, rfl, hk, hown, hb⟩ := hrel
    obtain ⟨hc, hfz⟩ := bcell hb
    have hzr := hb.size
    simp at hzr
    have qr : w.heap.size < wr.heap.size := by omega
    by_cases hlt : k < 256
    · have hlen := rowsTo_len c k
      cases hh : Has c k
      · have hst := Lib.hid (show rowsTo c (k + 1) = rowsTo c k by rw [rowsTo, if_neg (by rw [hh]; decide)])
        repeat (first | go_values | go_skip | go_guarded | go_step | go_upon)
        refine (rhas_b c k _ _ hlt hh).mono ?_
        rintro e w1 ⟨rfl, hb1⟩
        obtain ⟨hc1, hf1⟩ := bcell hb1
        have hz1 := hb1.size
        try simp at hz1
        have q1_0 : w.heap.size < w1.heap.size := by omega
        dsimp only
        repeat (first | go_values | go_skip | go_guarded | go_step | go_upon)
        refine ⟨⟨k + 1, by go_num, by omega, ?_, bstep hb hb1⟩, by simp [intOf]; omega⟩
        rw [hst.out]
        exact owns_below hown hb1
      · have hst := Lib.hid (show rowsTo c (k + 1) = addB (rowsTo c k) k by rw [rowsTo, if_pos hh])
        generalize rowsTo c k = l at *
        generalize hn0 : l.length = n at hown
        rcases owns_form2 hown with ⟨hn, hv⟩ | ⟨g, cap, hv⟩
        · subst hv
          subst hn
          obtain rfl : l = [] := List.eq_nil_of_length_eq_zero hn0
          clear hn0
          repeat (first | go_values | go_skip | go_guarded | go_step | go_upon)
          refine (rhas_b c k _ _ hlt hh).mono ?_
          rintro e w1 ⟨rfl, hb1⟩
          obtain ⟨hc1, hf1⟩ := bcell hb1
          have hz1 := hb1.size
          try simp at hz1
          have q1_0 : w.heap.size < w1.heap.size := by omega
          dsimp only
          have hown1 := owns_below hown hb1
          repeat (first | (at_builtin; refine wpList_append_own _ rfl _ _ 31 rfl (w.heap.size + 1) 37 i0 (.agg #[.int .i64 0, .int .i64 0]) 2 16 Try.underlying31 iH iz is ib rfl (by decide) _ _ _ rfl (hown1.alloc _) ⟨w1.heap.size, 0, none⟩ 1 1 [.int .i64 (k : Int), .int .i64 (k : Int)] rfl rfl ?c1 ?c2 ?c3 ?c4 ?c5 ?c6) | go_values | go_skip | go_guarded | go_step | go_upon)
          case c1 => exact cell_two_new _ _ _ _
          case c2 => simp [Value.oneCell']
          case c3 => unfold maxLen; first | omega | (simp; done) | (simp; omega)
          case c4 => (first | omega | (simp; done) | (simp; omega))
          case c5 => (first | (simp; done) | (simp; omega))
          case c6 =>
            intro v3 w3 hown3 hgr3 _
            have hb3 : Below (w.alloc (.cells #[.int .u64 (wd c 0), .int .u64 (wd c 1), .int .u64 (wd c 2), .int .u64 (wd c 3)] 24)).heap.size (w.alloc (.cells #[.int .u64 (wd c 0), .int .u64 (wd c 1), .int .u64 (wd c 2), .int .u64 (wd c 3)] 24)) w3 :=
              below_grown (bal (bstep hb hb1) _) hgr3 (fun j hj => by have := (hown1.lt j hj).1; first | omega | (simp; done) | (simp; omega))
            repeat (first | go_values | go_skip | go_guarded | go_step | go_upon)
            refine ⟨⟨k + 1, by go_num, by omega, ?_, hb3⟩, by simp [intOf]; omega⟩
            rw [hst.out, show addB [] k = [] ++ [(k, k)] from rfl, pairs_append, List.length_append]
            exact hown3
        · subst hv
          by_cases h0 : n = 0
          · subst h0
            obtain rfl : l = [] := List.eq_nil_of_length_eq_zero hn0
            clear hn0
            repeat (first | go_values | go_skip | go_guarded | go_step | go_upon)
            refine (rhas_b c k _ _ hlt hh).mono ?_
            rintro e w1 ⟨rfl, hb1⟩
            obtain ⟨hc1, hf1⟩ := bcell hb1
            have hz1 := hb1.size
            try simp at hz1
            have q1_0 : w.heap.size < w1.heap.size := by omega
            dsimp only
            have hown1 := owns_below hown hb1
            repeat (first | (at_builtin; refine wpList_append_own _ rfl _ _ 31 rfl (w.heap.size + 1) 37 i0 (.agg #[.int .i64 0, .int .i64 0]) 2 16 Try.underlying31 iH iz is ib rfl (by decide) _ _ _ rfl (hown1.alloc _) ⟨w1.heap.size, 0, none⟩ 1 1 [.int .i64 (k : Int), .int .i64 (k : Int)] rfl rfl ?c1 ?c2 ?c3 ?c4 ?c5 ?c6) | go_values | go_skip | go_guarded | go_step | go_upon)
            case c1 => exact cell_two_new _ _ _ _
            case c2 => simp [Value.oneCell']
            case c3 => unfold maxLen; first | omega | (simp; done) | (simp; omega)
            case c4 => (first | omega | (simp; done) | (simp; omega))
            case c5 => (first | (simp; done) | (simp; omega))
            case c6 =>
              intro v3 w3 hown3 hgr3 _
              have hb3 : Below (w.alloc (.cells #[.int .u64 (wd c 0), .int .u64 (wd c 1), .int .u64 (wd c 2), .int .u64 (wd c 3)] 24)).heap.size (w.alloc (.cells #[.int .u64 (wd c 0), .int .u64 (wd c 1), .int .u64 (wd c 2), .int .u64 (wd c 3)] 24)) w3 :=
                below_grown (bal (bstep hb hb1) _) hgr3 (fun j hj => by have := (hown1.lt j hj).1; first | omega | (simp; done) | (simp; omega))
              repeat (first | go_values | go_skip | go_guarded | go_step | go_upon)
              refine ⟨⟨k + 1, by go_num, by omega, ?_, hb3⟩, by simp [intOf]; omega⟩
              rw [hst.out, show addB [] k = [] ++ [(k, k)] from rfl, pairs_append, List.length_append]
              exact hown3
          · obtain ⟨m, rfl⟩ : ∃ m, n = m + 1 := ⟨n - 1, by omega⟩
            have hm := hn0
            obtain ⟨p, hp⟩ : ∃ p, l[m]? = some p := ⟨l[m], List.getElem?_eq_getElem (by omega)⟩
            have hg := pairs_get l m p hp
            have hset := Lib.hid (pairs_set l m p k hp)
            have hsto := fun h => Lib.hid (addB_store l k m p hm hp h)
            have hlas := fun h => Lib.hid (addB_last l k m p hm hp h)
            have HM := Lib.hid hm
            rw [hm] at hlen
            have gge : w.heap.size + 1 ≤ g := (hown.lt g rfl).1
            have gl : g < wr.heap.size := (hown.lt g rfl).2
            have c1 : wr.cell? ⟨g, m * 2 + 1, none⟩ = some (.int .i64 (p.2 : Int)) := by rw [hown.cellAt _ (by omega)]; exact hg.2
            have fz : ∀ j, wr.frozen? ⟨g, j, none⟩ = false := fun j => hown.frozenAt j
            clear hm hn0 hp hg h0
            by_cases he : p.2 + 1 = k
            · have d1 : ((p.2 : Int) == (k : Int) - 1) = true := by simp; omega
              have hso := hsto he
              clear he hsto hlas
              repeat (first | go_values | go_skip | go_guarded | go_step | go_upon)
              refine (rhas_b c k _ _ hlt hh).mono ?_
              rintro e w1 ⟨rfl, hb1⟩
              obtain ⟨hc1, hf1⟩ := bcell hb1
              have hz1 := hb1.size
              try simp at hz1
              have q1_0 : w.heap.size < w1.heap.size := by omega
              have q1_1 : g < w1.heap.size := by omega
              dsimp only
              have hown1 := owns_below hown hb1
              repeat (first | go_values | go_skip | go_guarded | go_step | go_upon)
              refine ⟨⟨k + 1, by go_num, by omega, ?_, (by repeat (first | exact Below.refl _ _ | assumption | refine bal ?_ _ | refine bdr ?_ | refine bdrn ?_ _ | (refine bset ?_ (by first | exact Nat.le_refl _ | (simp; done) | (simp; omega) | omega) _) | refine bstep ?_ (by assumption)))⟩, by simp [intOf]; omega⟩
              rw [hst.out, hso.out, List.length_set, HM.out, ← hset.out]
              exact (hown1.stored (m * 2 + 1) _).1
            · have d1 : ((p.2 : Int) == (k : Int) - 1) = false := by simp; omega
              have hla := hlas he
              clear he hsto hlas
              repeat (first | go_values | go_skip | go_guarded | go_step | go_upon)
              refine (rhas_b c k _ _ hlt hh).mono ?_
              rintro e w1 ⟨rfl, hb1⟩
              obtain ⟨hc1, hf1⟩ := bcell hb1
              have hz1 := hb1.size
              try simp at hz1
              have q1_0 : w.heap.size < w1.heap.size := by omega
              have q1_1 : g < w1.heap.size := by omega
              dsimp only
              have hown1 := owns_below hown hb1
              repeat (first | (at_builtin; refine wpList_append_own _ rfl _ _ 31 rfl (w.heap.size + 1) 37 i0 (.agg #[.int .i64 0, .int .i64 0]) 2 16 Try.underlying31 iH iz is ib rfl (by decide) _ _ _ rfl (hown1.alloc _) ⟨w1.heap.size, 0, none⟩ 1 1 [.int .i64 (k : Int), .int .i64 (k : Int)] rfl rfl ?c1 ?c2 ?c3 ?c4 ?c5 ?c6) | go_values | go_skip | go_guarded | go_step | go_upon)
              case c1 => exact cell_two_new _ _ _ _
              case c2 => simp [Value.oneCell']
              case c3 => unfold maxLen; first | omega | (simp; done) | (simp; omega)
              case c4 => (first | omega | (simp; done) | (simp; omega))
              case c5 => (first | (simp; done) | (simp; omega))
              case c6 =>
                intro v3 w3 hown3 hgr3 _
                have hb3 : Below (w.alloc (.cells #[.int .u64 (wd c 0), .int .u64 (wd c 1), .int .u64 (wd c 2), .int .u64 (wd c 3)] 24)).heap.size (w.alloc (.cells #[.int .u64 (wd c 0), .int .u64 (wd c 1), .int .u64 (wd c 2), .int .u64 (wd c 3)] 24)) w3 :=
                  below_grown (bal (bstep hb hb1) _) hgr3 (fun j hj => by have := (hown1.lt j hj).1; first | omega | (simp; done) | (simp; omega))
                repeat (first | go_values | go_skip | go_guarded | go_step | go_upon)
                refine ⟨⟨k + 1, by go_num, by omega, ?_, hb3⟩, by simp [intOf]; omega⟩
                rw [hst.out, hla.out, pairs_append, List.length_append, HM.out]
                exact hown3
    · obtain rfl : k = 256 := by omega
      rw [hend.out] at hown
      repeat (first | go_values | go_skip | go_guarded | go_step | go_upon)
      go_ret
      exact ⟨_, rfl, World.ownsRow.mono hown (by omega), bstep (bal (Below.refl _ _) _) hb⟩
end Go.Proofs.Ytfnbdpigpeonmaa
