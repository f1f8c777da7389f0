/- The walk of class.reader's method sign. -/
import Derived.Test.YtjlcoldnhbkcgaaGreatDoorG4
namespace Go.Proofs.YtjlcoldnhbkcgaaGreatDoor
open Go.RowKit Go.Sort

theorem rd_below {R : Nat} {S : ByteArray} {a : Nat} {w w' : World} (h : RD R S a w) (hb : Below w.heap.size w w') : RD R S a w' := (below_rto h hb).1
/-- A sign was read, or what is wrong. -/
def SgnP (R : Nat) (S : ByteArray) (w : World) (g : Got Nat) (e : Ending) (w' : World) : Prop :=
  match g with
  | .inr (c, n) => e = .returned (.tuple #[.int .i64 (c : Int), .nilIface]) ∧ Rto R S n w w'
  | .inl er => AnsFault er w (fun v => .tuple #[.int .i64 0, v]) e w' ∧ ∃ n, Rto R S n w w'
theorem SgnP.ok {R : Nat} {S : ByteArray} {w w' : World} {g : Got Nat} {e : Ending} {c n : Nat} {x : Int} (hg : g = .inr (c, n)) (hx : x = c) (he : e = .returned (.tuple #[.int .i64 x, .nilIface])) (h : Rto R S n w w') : SgnP R S w g e w' := by
  subst hg hx; exact ⟨he, h⟩
theorem SgnP.no {R : Nat} {S : ByteArray} {w w1 w' : World} {g : Got Nat} {er : Nat × Nat} {a p : Nat} (hg : g = .inl er) (h : Rto R S a w w1) (hp : FaultAt p er w') (hl : w1.heap.size ≤ p) (hb : Below w1.heap.size w1 w') :
    SgnP R S w g (.returned (.tuple #[.int .i64 0, .iface 79 (.pointer (some ⟨p, 0, none⟩))])) w' := by
  subst hg; exact ⟨⟨p, rfl, hp, Nat.le_trans h.2.size hl⟩, a, rto_trans h (below_rto h.1 hb)⟩
set_option maxRecDepth 100000 in
set_option maxHeartbeats 3200000 in
theorem sign_plain (R : Nat) (S : ByteArray) (a : Nat) (w : World) (h : RD R S a w) (hs : S.size ≤ 140737488355328) (hb : (byteAt (bl S) a == 92) = false) :
    Calls Tryz.prog 139 #[.pointer (some ⟨R, 0, none⟩)] w (SgnP R S w (sgnAt (bl S) a)) := by
  have HR := Lib.hid h
  clear h
  have hb2 : byteAt (bl S) a ≠ 92 := by simpa using hb
  by_cases ha : S.size ≤ a
  · have HG := Lib.hid (show sgnAt (bl S) a = .inl (wrongAt (bl S) a) by rw [sgnAt, if_neg hb2, byteAt_bge ha]; simp)
    have d1 : decide (S.size ≤ a) = true := by simpa using ha
    have HB := Lib.hid hb
    clear hb hb2
    go_enter Tryz.func139, Tryz.ntmps139
    repeat (first | go_values | go_skip | go_guarded | go_step | go_upon)
    refine (is_any R S a 92 false _ HR.out hs (by decide) HB.out).mono ?_
    rintro e w1 ⟨rfl, hb1⟩
    have t1 := below_rto HR.out hb1
    obtain ⟨c0, c1, fz⟩ := rd_cells t1.1
    dsimp only
    repeat (first | go_values | go_skip | go_guarded | go_step | go_upon)
    go_region
    repeat (first | go_values | go_skip | go_guarded | go_step | go_upon)
    refine (wrong_any R S a _ (rd_below t1.1 (drew_below _)) hs).mono ?_
    rintro e w2 ⟨⟨p, rfl, hp, hl⟩, hb2⟩
    dsimp only
    repeat (first | go_values | go_skip | go_guarded | go_step | go_upon)
    go_ret2
    exact SgnP.no HG.out t1 hp (by simpa using hl) (bstep (drew_below _) hb2)
  · have hl : a < S.size := by omega
    have d1 : decide (S.size ≤ a) = false := by simpa using ha
    have hv := byteAt_ba hl
    have h256 := UInt8.toNat_lt S[a]
    have hR0 : R < w.heap.size := rd_lt HR.out
    have HB := Lib.hid hb
    by_cases hbad : fiveB (byteAt (bl S) a) = true ∨ byteAt (bl S) a < 32 ∨ 126 < byteAt (bl S) a
    · have HG := Lib.hid (show sgnAt (bl S) a = .inl (wrongAt (bl S) a) by rw [sgnAt, if_neg hb2, if_pos hbad])
      rw [hv] at hbad hb hb2
      by_cases c32 : S[a].toNat < 32
      · have d2 : decide ((S[a].toNat : Int) < 32) = true := by simp; omega
        clear hb hb2 hbad hv c32
        go_enter Tryz.func139, Tryz.ntmps139
        repeat (first | go_values | go_skip | go_guarded | go_step | go_upon)
        refine (is_any R S a 92 false _ HR.out hs (by decide) HB.out).mono ?_
        rintro e w1 ⟨rfl, hb1⟩
        have t1 := below_rto HR.out hb1
        obtain ⟨c0, c1, fz⟩ := rd_cells t1.1
        dsimp only
        repeat (first | go_values | go_skip | go_guarded | go_step | go_upon)
        go_region
        repeat (first | go_values | go_skip | go_guarded | go_step | go_upon)
        refine (wrong_any R S a _ (rd_below t1.1 (drew_below _)) hs).mono ?_
        rintro e w2 ⟨⟨p, rfl, hp, hl⟩, hb2⟩
        dsimp only
        repeat (first | go_values | go_skip | go_guarded | go_step | go_upon)
        go_ret2
        exact SgnP.no HG.out t1 hp (by simpa using hl) (bstep (drew_below _) hb2)
      by_cases c126 : 126 < S[a].toNat
      · have d2 : decide ((S[a].toNat : Int) < 32) = false := by simp; omega
        have d3 : decide ((126 : Int) < S[a].toNat) = true := by simp; omega
        clear hb hb2 hbad hv c32 c126
        go_enter Tryz.func139, Tryz.ntmps139
        repeat (first | go_values | go_skip | go_guarded | go_step | go_upon)
        refine (is_any R S a 92 false _ HR.out hs (by decide) HB.out).mono ?_
        rintro e w1 ⟨rfl, hb1⟩
        have t1 := below_rto HR.out hb1
        obtain ⟨c0, c1, fz⟩ := rd_cells t1.1
        dsimp only
        repeat (first | go_values | go_skip | go_guarded | go_step | go_upon)
        go_region
        repeat (first | go_values | go_skip | go_guarded | go_step | go_upon)
        refine (wrong_any R S a _ (rd_below t1.1 (drew_below _)) hs).mono ?_
        rintro e w2 ⟨⟨p, rfl, hp, hl⟩, hb2⟩
        dsimp only
        repeat (first | go_values | go_skip | go_guarded | go_step | go_upon)
        go_ret2
        exact SgnP.no HG.out t1 hp (by simpa using hl) (bstep (drew_below _) hb2)
      · have h5 : fiveB S[a].toNat = true := by rcases hbad with h | h | h <;> first | exact h | omega
        have d2 : decide ((S[a].toNat : Int) < 32) = false := by simp; omega
        have d3 : decide ((126 : Int) < S[a].toNat) = false := by simp; omega
        obtain ⟨j, hj⟩ : ∃ j : Nat, Lib.indexByte [91, 93, 92, 45, 94] S[a].toNat.toUInt8 = j := by
          rcases five_list h5 with h | h | h | h | h <;> rw [h] <;> exact ⟨_, rfl⟩
        have H2 := Lib.hid (fun w' => idx_any ⟨#[91, 93, 92, 45, 94]⟩ (S[a].toNat : Int) _ w' (by simpa using hj))
        clear hb hb2 hbad hv c32 c126 h5 hj
        go_enter Tryz.func139, Tryz.ntmps139
        repeat (first | go_values | go_skip | go_guarded | go_step | go_upon)
        refine (is_any R S a 92 false _ HR.out hs (by decide) HB.out).mono ?_
        rintro e w1 ⟨rfl, hb1⟩
        have t1 := below_rto HR.out hb1
        obtain ⟨c0, c1, fz⟩ := rd_cells t1.1
        have hz1 := rd_lt t1.1
        dsimp only
        repeat (first | go_values | go_skip | go_guarded | go_step | go_upon)
        have q0 := rd_grown0' t1.1
        have q1 := rd_grown1' t1.1
        repeat (first | go_values | go_skip | go_guarded | go_step | go_upon)
        have hG := grown_cell
        have g2_0 : R < w1.heap.size := by omega
        refine wp_region_qb (by kernel_rfl) (by kernel_rfl) ?_
        repeat (quiet_step (first | (with_reducible exact ans_quiet (H2.out _))))
        refine wpQuiet_nil ?_
        intro w2 hb2
        clear hG
        obtain ⟨hc2, hf2⟩ := bcell hb2
        have hz2 := hb2.size
        try simp at hz2
        have q2_0 : R < w2.heap.size := by omega
        clear q0 q1
        have t2 := rto_trans t1 (below_rto t1.1 hb2)
        repeat (first | go_values | go_skip | go_guarded | go_step | go_upon)
        refine (wrong_any R S a _ t2.1 hs).mono ?_
        rintro e w3 ⟨⟨p, rfl, hp, hl⟩, hb3⟩
        dsimp only
        repeat (first | go_values | go_skip | go_guarded | go_step | go_upon)
        go_ret2
        exact SgnP.no HG.out t2 hp hl hb3
    · have HG := Lib.hid (show sgnAt (bl S) a = .inr (S[a].toNat, a + 1) by rw [sgnAt, if_neg hb2, if_neg hbad, hv])
      rw [hv] at hbad hb hb2
      have h5 : fiveB S[a].toNat = false := by simpa using fun h => hbad (.inl h)
      have d2 : decide ((S[a].toNat : Int) < 32) = false := by simp; omega
      have d3 : decide ((126 : Int) < S[a].toNat) = false := by simp; omega
      have hj := marked_no _ h256 h5
      have H2 := Lib.hid (fun w' => idx_any ⟨#[91, 93, 92, 45, 94]⟩ (S[a].toNat : Int) _ w' (by simpa using hj))
      clear hb hb2 hbad hv h5 hj
      go_enter Tryz.func139, Tryz.ntmps139
      repeat (first | go_values | go_skip | go_guarded | go_step | go_upon)
      refine (is_any R S a 92 false _ HR.out hs (by decide) HB.out).mono ?_
      rintro e w1 ⟨rfl, hb1⟩
      have t1 := below_rto HR.out hb1
      obtain ⟨c0, c1, fz⟩ := rd_cells t1.1
      have hz1 := rd_lt t1.1
      dsimp only
      repeat (first | go_values | go_skip | go_guarded | go_step | go_upon)
      have q0 := rd_grown0' t1.1
      have q1 := rd_grown1' t1.1
      repeat (first | go_values | go_skip | go_guarded | go_step | go_upon)
      have hG := grown_cell
      have g2_0 : R < w1.heap.size := by omega
      refine wp_region_qb (by kernel_rfl) (by kernel_rfl) ?_
      repeat (quiet_step (first | (with_reducible exact ans_quiet (H2.out _))))
      refine wpQuiet_nil ?_
      intro w2 hb2
      clear hG
      obtain ⟨hc2, hf2⟩ := bcell hb2
      have hz2 := hb2.size
      try simp at hz2
      have q2_0 : R < w2.heap.size := by omega
      clear q0 q1
      have t2 := rto_trans t1 (below_rto t1.1 hb2)
      obtain ⟨c2, c3, fz2⟩ := rd_cells t2.1
      repeat (first | go_values | go_skip | go_guarded | go_step | go_upon)
      have e1 : ((a : Int) + 1 - 1).toNat = a := by omega
      go_region
      repeat (first | go_values | go_skip | go_guarded | go_step | go_upon)
      go_ret2
      exact SgnP.ok HG.out rfl rfl (rto_trans (rto_set (n := a + 1) t2) (below_rto (rto_set (n := a + 1) t2).1 (drew_below _)))
end Go.Proofs.YtjlcoldnhbkcgaaGreatDoor
