/- The walk of lex.Quote. -/
import Derived.Test.YtlohpplpnddfaaaDoorQuoP
import Derived.Test.YtlohpplpnddfaaaDoorTxtW
import Derived.Test.YtlohpplpnddfaaaDoorRdW
import Derived.StillTailTactics
import Derived.Laws.DeepStrings4
namespace Go.Proofs.YtlohpplpnddfaaaDoor
open Go.RowKit Go.Sort

theorem wbq (b : Nat) (A : List UInt8) (c : Nat) (w : World) (hc : c < 256) (h : Bld b b (Lib.byteCells A) w) (hl : A.length ≤ 100000000) :
    Calls Tryd.prog 57 #[.pointer (some ⟨b, 0, none⟩), .int .u8 (c : Int)] w fun e w' => e = .returned .nilIface ∧ Bld b b (Lib.byteCells (A ++ [c.toUInt8])) w' ∧ Below b w w' := by
  refine (writeByte_any b b _ _ w h (by rw [Lib.byteCells_length]; omega) (Nat.le_of_lt (bld_lt h))).mono ?_
  rintro e w' ⟨h1, h2, h3, h4⟩
  refine ⟨h1, ?_, h3⟩
  rw [Lib.byteCells_append]
  have e : Lib.byteCells [c.toUInt8] = [.int .u8 (c : Int)] := by
    have : c.toUInt8.toNat = c := by simp; omega
    show [Value.int .u8 ((c.toUInt8.toNat : Nat) : Int)] = _
    rw [this]
  rw [e]
  exact h2
theorem wsq (b : Nat) (A S : List UInt8) (U : ByteArray) (w : World) (hU : U = ⟨S.toArray⟩) (h : Bld b b (Lib.byteCells A) w) (hl : A.length + S.length ≤ 100000000) :
    Calls Tryd.prog 59 #[.pointer (some ⟨b, 0, none⟩), .string U] w fun e w' => e = .returned (.tuple #[.int .i64 (S.length : Nat), .nilIface]) ∧ Bld b b (Lib.byteCells (A ++ S)) w' ∧ Below b w w' := by
  subst hU
  have hs : (⟨S.toArray⟩ : ByteArray).size = S.length := by simp [ByteArray.size]
  refine (writeString_any b b _ _ w h (by rw [Lib.byteCells_length, hs]; omega) (Nat.le_of_lt (bld_lt h))).mono ?_
  rintro e w' ⟨h1, h2, h3, h4⟩
  exact ⟨by rw [h1, hs], by rw [Lib.byteCells_append, ← strCells_txt S]; exact h2, h3⟩
set_option maxRecDepth 100000 in
set_option maxHeartbeats 6400000 in
theorem quote_any (P : ByteArray) (w : World) (hs : P.size ≤ 1048576) : Calls Tryd.prog 43 #[.string P] w (Ans (.string ⟨(quoted (bl P)).toArray⟩) w) := by
  have hlen := bl_length P
  have HB := Lib.hid (bld_new w)
  have HQ := Lib.hid (show quoted (bl P) = quoTo (bl P) P.size ++ [39] by rw [quoted, hlen])
  go_enter Tryd.func43, Tryd.ntmps43
  repeat (first | go_values | go_skip | go_guarded | go_step | go_upon)
  refine (wbq w.heap.size [] 39 _ (by decide) (by simpa [Lib.byteCells] using HB.out) (by simp)).mono ?_
  rintro e w1 ⟨rfl, hB1, hb1⟩
  have hW1 : Below w.heap.size w w1 := ((Below.refl _ _).alloc (Nat.le_refl _) _).trans hb1
  dsimp only
  repeat (first | go_values | go_skip | go_guarded | go_step | go_upon)
  go_loopw [10] (fun t wr => ∃ k : Nat, t = .int .i64 (k : Int) ∧ k ≤ P.size ∧ Bld w.heap.size w.heap.size (Lib.byteCells (quoTo (bl P) k)) wr ∧ Below w.heap.size w wr) (fun t _ => P.size - (intOf t).toNat)
  case atStart => exact ⟨0, rfl, Nat.zero_le _, hB1, hW1⟩
  case round =>
    obtain ⟨k, rfl, hk, hB, hb⟩ := hrel
    have hq4 := quoTo_len (bl P) k
    have qB := bld_lt hB
    rcases Nat.lt_or_ge k P.size with hlt | hge
    · have hv := byteAt_ba hlt
      have h256 := UInt8.toNat_lt P[k]
      have k1 : decide (k < P.size) = true := by simpa using hlt
      have hst : quoTo (bl P) (k + 1) = quoTo (bl P) k ++ qch P[k].toNat := by rw [quoTo, hv]
      rcases qch_kinds P[k].toNat h256 with h | h | h
      · have hj : ∃ (j : Nat) (x : UInt8), j < 5 ∧ Lib.indexByte [10, 13, 9, 39, 92] P[k].toNat.toUInt8 = j ∧ (⟨#[92]⟩ ++ (⟨#[110, 114, 116, 39, 92]⟩ : ByteArray).extract j (j + 1) : ByteArray) = ⟨[92, x].toArray⟩ ∧ qch P[k].toNat = [92, x] := by
          rcases h with h | h | h | h | h <;> rw [h]
          · exact ⟨0, 110, by decide, by decide, by decide, by decide⟩
          · exact ⟨1, 114, by decide, by decide, by decide, by decide⟩
          · exact ⟨2, 116, by decide, by decide, by decide, by decide⟩
          · exact ⟨3, 39, by decide, by decide, by decide, by decide⟩
          · exact ⟨4, 92, by decide, by decide, by decide, by decide⟩
        obtain ⟨j, x, hj5, hj1, hj2, hj3⟩ := hj
        have HI := Lib.hid (fun w' => idx_any ⟨#[10, 13, 9, 39, 92]⟩ (P[k].toNat : Int) (j : Int) w' (by simpa using hj1))
        have H2 := Lib.hid hj2
        have HS := Lib.hid (hst.trans (by rw [hj3]))
        clear hv h hst hj1 hj2 hj3
        repeat (first | go_values | go_skip | go_guarded | go_step | go_upon)
        refine (HI.out _).mono ?_
        rintro e w2 ⟨rfl, hb2⟩
        have hB2 := bld_below hB hb2
        dsimp only
        repeat (first | go_values | go_skip | go_guarded | go_step | go_upon)
        refine (wsq w.heap.size (quoTo (bl P) k) [92, x] _ _ H2.out hB2 (by simp; omega)).mono ?_
        rintro e w3 ⟨rfl, hB3, hb3⟩
        dsimp only
        repeat (first | go_values | go_skip | go_guarded | go_step | go_upon)
        refine ⟨⟨k + 1, by go_num, by omega, by rw [HS.out]; exact hB3, (bstep hb hb2).trans hb3⟩, by simp [intOf]; omega⟩
      · have HI := Lib.hid (fun w' => idx_any ⟨#[10, 13, 9, 39, 92]⟩ (P[k].toNat : Int) (-1) w' (by simpa using qmark_no h256 h.1 h.2.1 h.2.2.1 h.2.2.2.1 h.2.2.2.2.1))
        have HS := Lib.hid (hst.trans (by rw [qch_plain h]))
        have d1 : decide ((P[k].toNat : Int) < 32) = false := by simp; omega
        have d2 : decide ((126 : Int) < P[k].toNat) = false := by simp; omega
        clear hv h hst
        repeat (first | go_values | go_skip | go_guarded | go_step | go_upon)
        refine (HI.out _).mono ?_
        rintro e w2 ⟨rfl, hb2⟩
        have hB2 := bld_below hB hb2
        dsimp only
        repeat (first | go_values | go_skip | go_guarded | go_step | go_upon)
        refine (wbq w.heap.size (quoTo (bl P) k) P[k].toNat _ h256 hB2 (by omega)).mono ?_
        rintro e w3 ⟨rfl, hB3, hb3⟩
        dsimp only
        repeat (first | go_values | go_skip | go_guarded | go_step | go_upon)
        refine ⟨⟨k + 1, by go_num, by omega, by rw [HS.out]; exact hB3, (bstep hb hb2).trans hb3⟩, by simp [intOf]; omega⟩
      · have HI := Lib.hid (fun w' => idx_any ⟨#[10, 13, 9, 39, 92]⟩ (P[k].toNat : Int) (-1) w' (by simpa using qmark_no h256 h.1 h.2.1 h.2.2.1 h.2.2.2.1 h.2.2.2.2.1))
        have HS := Lib.hid (hst.trans (by rw [qch_hex h]))
        have hdd : (decide ((P[k].toNat : Int) < 32) = true) ∨ (decide ((P[k].toNat : Int) < 32) = false ∧ decide ((126 : Int) < P[k].toNat) = true) := by
          simp only [decide_eq_true_eq, decide_eq_false_iff_not]; omega
        have e1 : (P[k].toNat : Int) / 16 = ((P[k].toNat / 16 : Nat) : Int) := by omega
        have e2 : bits .and .u8 (P[k].toNat : Int) 15 = ((P[k].toNat % 16 : Nat) : Int) := and15 _ h256
        have x1 := Lib.hid (hexd_at (P[k].toNat / 16) (by omega))
        have x2 := Lib.hid (hexd_at (P[k].toNat % 16) (by omega))
        have b1 : P[k].toNat / 16 < 16 := by omega
        have b2 : P[k].toNat % 16 < 16 := by omega
        clear hv h hst
        generalize P[k].toNat / 16 = p at *
        generalize P[k].toNat % 16 = q at *
        have w1 : IntKind.u8.wrap ((p : Int) + 1) = (p : Int) + 1 := by rw [IntKind.wrap_u8]; omega
        have w2' : IntKind.u8.wrap ((q : Int) + 1) = (q : Int) + 1 := by rw [IntKind.wrap_u8]; omega
        have c1 : (p : Int) + 1 ≤ 16 := by omega
        have c2 : (q : Int) + 1 ≤ 16 := by omega
        have c3 : (0 : Int) ≤ (p : Int) ∧ (p : Int) ≤ (p : Int) + 1 := by omega
        have c4 : (0 : Int) ≤ (q : Int) ∧ (q : Int) ≤ (q : Int) + 1 := by omega
        have m1 : min (p + 1) 16 - p = 1 := by omega
        have m2 : min (q + 1) 16 - q = 1 := by omega
        have t1 : ((p : Int) + 1).toNat = p + 1 := by omega
        have t2 : ((q : Int) + 1).toNat = q + 1 := by omega
        rcases hdd with d1 | ⟨d1, d2⟩
        all_goals
          repeat (first | go_values | go_skip | go_guarded | go_step | go_upon)
          refine (HI.out _).mono ?_
          rintro e w2 ⟨rfl, hb2⟩
          have hB2 := bld_below hB hb2
          dsimp only
          repeat (first | go_values | go_skip | go_guarded | go_step | go_upon)
          go_still_tail 14, (by kernel_rfl)
          repeat (first | go_values | go_skip | go_guarded | go_step | go_upon)
          refine (wsq w.heap.size (quoTo (bl P) k) [92, 120, hexd p, hexd q] _ _ ?_ (bld_below hB2 (drew_below _)) (by simp; omega)).mono ?_
          · rw [x1.out, x2.out]; rfl
          rintro e w3 ⟨rfl, hB3, hb3⟩
          dsimp only
          repeat (first | go_values | go_skip | go_guarded | go_step | go_upon)
          refine ⟨⟨k + 1, by go_num, by omega, by rw [HS.out]; exact hB3, (bstep (bstep hb hb2) (drew_below _)).trans hb3⟩, by simp [intOf]; omega⟩
    · obtain rfl : k = P.size := by omega
      repeat (first | go_values | go_skip | go_guarded | go_step | go_upon)
      refine (wbq w.heap.size (quoTo (bl P) P.size) 39 _ (by decide) hB (by omega)).mono ?_
      rintro e w3 ⟨rfl, hB3, hb3⟩
      dsimp only
      repeat (first | go_values | go_skip | go_guarded | go_step | go_upon)
      refine (Tryd.Builder_String_any_k w.heap.size w.heap.size _ _ hB3 (Nat.le_of_lt (bld_lt hB3))).mono ?_
      rintro e w4 ⟨rfl, hB4, hb4, ho4⟩
      dsimp only
      repeat (first | go_values | go_skip | go_guarded | go_step | go_upon)
      go_ret
      refine ⟨?_, (hb.trans hb3).trans hb4⟩
      rw [HQ.out]
      rfl
end Go.Proofs.YtlohpplpnddfaaaDoor
