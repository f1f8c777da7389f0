/- The walk of class.Parse behind '[^', and all of it. -/
import Derived.Test.YtjlcoldnhbkcgaaGreatDoorG10
namespace Go.Proofs.YtjlcoldnhbkcgaaGreatDoor
open Go.RowKit Go.Sort

theorem not_as {c d : BitVec 256} (h : d = ~~~c) (w : World) : Calls Tryz.prog 134 #[.agg #[.int .u64 (wd c 0), .int .u64 (wd c 1), .int .u64 (wd c 2), .int .u64 (wd c 3)]] w (Ans (.agg #[.int .u64 (wd d 0), .int .u64 (wd d 1), .int .u64 (wd d 2), .int .u64 (wd d 3)]) w) := by subst h; exact not_any c w
set_option maxRecDepth 100000 in
set_option maxHeartbeats 3200000 in
theorem par_n (S : ByteArray) (w : World) (hs : S.size ≤ 140737488355328) (hb : byteAt (bl S) 0 = 91) (hn : byteAt (bl S) 1 = 94) :
    Calls Tryz.prog 116 #[.string S] w (ParP w (parsed (bl S))) := by
  have hlen := bl_length S
  have h0 := byteAt_in (s := bl S) (a := 0) (by omega)
  have P1 := Lib.hid (show pk [91] (byteAt (bl S) 0) = (0 : Nat) by rw [hb]; decide)
  have h1 := byteAt_in (s := bl S) (a := 1) (by omega)
  have P2 := Lib.hid (show pk [94] (byteAt (bl S) 1) = (0 : Nat) by rw [hn]; decide)
  have HG := Lib.hid (show parsed (bl S) = doneP true (memsAt (bl S) ((bl S).length + 1) 2 0) by
    rw [parsed, if_pos hb, if_pos hn]
    cases memsAt (bl S) ((bl S).length + 1) 2 0 <;> rfl)
  clear hb hn
  have z0 := z_start S w
  generalize hM : memsAt (bl S) ((bl S).length + 1) 2 0 = G at HG
  have HM := Lib.hid hM
  clear hM
  go_enter Tryz.func116, Tryz.ntmps116
  repeat (first | go_values | go_skip | go_guarded | go_step | go_upon)
  refine (pick_yes (w.heap.size + 1 + 1) S 0 [91] 0 _ (rd_alloc3 _ _ _) hs P1.out).mono ?_
  rintro e w1 ⟨rfl, t1⟩
  have z1 := z0.rto t1
  dsimp only
  repeat (first | go_values | go_skip | go_guarded | go_step | go_upon)
  refine (pick_yes (w.heap.size + 1 + 1) S 1 [94] 0 _ z1.rd hs P2.out).mono ?_
  rintro e w2 ⟨rfl, t2⟩
  have z2 := z1.rto t2
  dsimp only
  repeat (first | go_values | go_skip | go_guarded | go_step | go_upon)
  go_loopw [24] (fun _ wr => ∃ (f a : Nat) (c : BitVec 256), Z S c a w wr ∧ Hid (memsAt (bl S) f a c = G) ∧ (bl S).length < f + a ∧ a ≤ S.size) (fun _ wr => S.size - (intOf ((wr.cell? ⟨w.heap.size + 1 + 1, 1, none⟩).getD undef)).toNat)
  case atStart => exact ⟨_, 2, 0, z2, HM, by omega, by omega⟩
  case round =>
    obtain ⟨f, a, c, z, hG, hf, ha⟩ := hrel
    obtain ⟨f, rfl⟩ : ∃ g, f = g + 1 := ⟨f - 1, by omega⟩
    have hle := byteAt_le (bl S) a
    by_cases h93 : byteAt (bl S) a = 93
    · have P3 := Lib.hid (show pk [93] (byteAt (bl S) a) = (0 : Nat) by rw [h93]; decide)
      have HX := Lib.hid (show G = .inr (c, a + 1) by rw [← hG.out, mems_one h93])
      clear h93
      repeat (first | go_values | go_skip | go_guarded | go_step | go_upon)
      refine (pick_yes (w.heap.size + 1 + 1) S a [93] 0 _ z.rd hs P3.out).mono ?_
      rintro e w3 ⟨rfl, t3⟩
      have z3 := z.rto t3
      obtain ⟨cB, fB, zB⟩ := cells_at z3.cls
      obtain ⟨cA, fA, zA⟩ := cells_at z3.res
      obtain ⟨r0, r1, fr⟩ := rd_cells z3.rd
      dsimp only
      repeat (first | go_values | go_skip | go_guarded | go_step | go_upon)
      obtain ⟨d, hd⟩ : ∃ d, d = ~~~c := ⟨_, rfl⟩
      have HD := Lib.hid hd
      clear hd
      refine (not_as HD.out _).mono ?_
      rintro e w4 ⟨rfl, hb4⟩
      have z4 := z3.below hb4
      clear cA fA zA cB fB zB r0 r1 fr
      obtain ⟨cB, fB, zB⟩ := cells_at z4.cls
      obtain ⟨cA, fA, zA⟩ := cells_at z4.res
      obtain ⟨r0, r1, fr⟩ := rd_cells z4.rd
      dsimp only
      repeat (first | go_values | go_skip | go_guarded | go_step | go_upon)
      go_region
      repeat (first | go_values | go_skip | go_guarded | go_step | go_upon)
      refine bodyPost_ret (v := .tuple #[.agg #[.int .u64 (wd d 0), .int .u64 (wd d 1), .int .u64 (wd d 2), .int .u64 (wd d 3)], .int .i64 ((a + 1 : Nat) : Int), .nilIface]) (by simp [results, Tryz.results116, go_sem, cA]) rfl ?_
      exact ParP.ok (HG.out.trans (by rw [HX.out, HD.out]; rfl)) rfl (bel4 (Z.cset d z4).bel _ _ _ _).drew
    · have P3 := Lib.hid (show pk [93] (byteAt (bl S) a) = -1 by have := pk_one 93 (by decide) _ (show byteAt (bl S) a < 257 by omega); rw [if_neg h93] at this; exact this)
      cases hm : memAt (bl S) a with
      | inl er =>
        have HX := Lib.hid (show G = .inl er by rw [← hG.out, mems_bad h93 hm])
        have HE := Lib.hid hm
        clear h93 hm
        repeat (first | go_values | go_skip | go_guarded | go_step | go_upon)
        refine (pick_no (w.heap.size + 1 + 1) S a [93] _ z.rd hs P3.out).mono ?_
        rintro e w3 ⟨rfl, t3⟩
        have z3 := z.rto t3
        dsimp only
        repeat (first | go_values | go_skip | go_guarded | go_step | go_upon)
        refine (rmem_no (w.heap.size + 1 + 1) S a _ z3.rd hs HE.out).mono ?_
        rintro e w4 ⟨⟨p, rfl, hp, hl⟩, n4, t4⟩
        have z4 := z3.rto t4
        obtain ⟨cA, fA, zA⟩ := cells_at z4.res
        have hp4 := (Array.getElem?_eq_some_iff.1 hp).1
        have hl4 := z3.lt
        have hl5 := z4.lt
        dsimp only [cls0]
        repeat (first | go_values | go_skip | go_guarded | go_step | go_upon)
        refine bodyPost_ret (v := .tuple #[cls0, .int .i64 0, .iface 79 (.pointer (some ⟨p, 0, none⟩))]) (by simp [cls0, results, Tryz.results116, go_sem, cA, zA]) rfl ?_
        refine ParP.no (HG.out.trans (by rw [HX.out]; rfl)) rfl ?_ (by omega) ?_
        · repeat (first | (with_reducible exact hp) | refine fault_set ?_ (by simp; omega) _ | refine fault_alloc ?_ _)
        · repeat (first | (with_reducible exact z4.bel) | refine RowKit.Below.setCell ?_ (by first | (with_reducible exact Nat.le_refl _) | (simp; omega)) _ | refine RowKit.Below.alloc ?_ (by first | (simp; done) | (simp; omega) | omega) _)
      | inr q =>
        obtain ⟨m, n⟩ := q
        have HX := Lib.hid (show memsAt (bl S) f n (c ||| m) = G by rw [← hG.out, mems_on h93 hm])
        have HE := Lib.hid hm
        have hbd := memAt_bd hm
        clear h93 hm
        repeat (first | go_values | go_skip | go_guarded | go_step | go_upon)
        refine (pick_no (w.heap.size + 1 + 1) S a [93] _ z.rd hs P3.out).mono ?_
        rintro e w3 ⟨rfl, t3⟩
        have z3 := z.rto t3
        dsimp only
        repeat (first | go_values | go_skip | go_guarded | go_step | go_upon)
        refine (rmem_ok (w.heap.size + 1 + 1) S a _ z3.rd hs HE.out).mono ?_
        rintro e w4 ⟨rfl, t4⟩
        have z4 := z3.rto t4
        obtain ⟨cA, fA, zA⟩ := cells_at z4.res
        obtain ⟨cB, fB, zB⟩ := cells_at z4.cls
        dsimp only
        repeat (first | go_values | go_skip | go_guarded | go_step | go_upon)
        refine (either_any _ _ _).mono ?_
        rintro e w5 ⟨rfl, hb5⟩
        have hl4 := z4.lt
        have z5 : Z S c n w w5 := by
          refine Z.below ?_ hb5
          repeat (first | (with_reducible exact z4) | refine Z.sethi ?_ (by simp; omega) _ | refine Z.alloc ?_ _)
        obtain ⟨cA5, fA5, zA5⟩ := cells_at z5.res
        obtain ⟨cB5, fB5, zB5⟩ := cells_at z5.cls
        dsimp only
        repeat (first | go_values | go_skip | go_guarded | go_step | go_upon)
        have z6 := Z.cset (c ||| m) z5
        refine ⟨⟨f, n, c ||| m, z6, HX, by omega, by omega⟩, ?_⟩
        rw [(rd_cells z6.rd).2.1, (rd_cells z.rd).2.1]
        simp [intOf]
        omega
theorem parse_any (S : ByteArray) (w : World) (hs : S.size ≤ 140737488355328) : Calls Tryz.prog 116 #[.string S] w (ParP w (parsed (bl S))) := by
  by_cases hb : byteAt (bl S) 0 = 91
  · by_cases hn : byteAt (bl S) 1 = 94
    · exact par_n S w hs hb hn
    · exact par_m S w hs hb hn
  · exact par_0 S w hs hb
theorem parse_ok (S : ByteArray) (w : World) (hs : S.size ≤ 140737488355328) {c : BitVec 256} {n : Nat} (hg : parsed (bl S) = .inr (c, n)) :
    Calls Tryz.prog 116 #[.string S] w (fun e w' => e = .returned (.tuple #[.agg #[.int .u64 (wd c 0), .int .u64 (wd c 1), .int .u64 (wd c 2), .int .u64 (wd c 3)], .int .i64 (n : Int), .nilIface]) ∧ Below w.heap.size w w') := by
  have := parse_any S w hs
  rw [hg] at this
  exact this
theorem parse_no (S : ByteArray) (w : World) (hs : S.size ≤ 140737488355328) {er : Nat × Nat} (hg : parsed (bl S) = .inl er) :
    Calls Tryz.prog 116 #[.string S] w (fun e w' => AnsFault er w (fun v => .tuple #[cls0, .int .i64 0, v]) e w' ∧ Below w.heap.size w w') := by
  have := parse_any S w hs
  rw [hg] at this
  exact this
end Go.Proofs.YtjlcoldnhbkcgaaGreatDoor
