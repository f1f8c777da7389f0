/- The walk of lex.Quote. | printer's expr, by the kinds of nodes. | printer's expr, by the kinds of nodes. | printer's expr, by the kinds of nodes. -/
import Derived.Test.YtjlcoldnhbkcgaaGreatDoorG17
import Derived.Test.YtjlcoldnhbkcgaaGreatDoorG9
import Derived.Test.YtjlcoldnhbkcgaaGreatDoorG4
import Derived.StillTailTactics
import Derived.Laws.DeepStrings4
import Derived.Test.YtjlcoldnhbkcgaaGreatDoorG34
import Derived.Test.YtjlcoldnhbkcgaaGreatDoorG28
namespace Go.Proofs.YtjlcoldnhbkcgaaGreatDoor
open Go.RowKit Go.Sort

theorem wbq (b : Nat) (A : List UInt8) (c : Nat) (w : World) (hc : c < 256) (h : Bld b b (Lib.byteCells A) w) (hl : A.length ≤ 100000000) :
    Calls Tryz.prog 70 #[.pointer (some ⟨b, 0, none⟩), .int .u8 (c : Int)] w fun e w' => e = .returned .nilIface ∧ Bld b b (Lib.byteCells (A ++ [c.toUInt8])) w' ∧ Below b w w' := by
  refine (writeByte_any b b _ _ w h (by rw [Lib.byteCells_length]; omega) (Nat.le_of_lt (bld_lt h))).mono ?_
  rintro e w' ⟨h1, h2, h3, h4⟩
  refine ⟨h1, ?_, h3⟩
  rw [Lib.byteCells_append]
  have e : Lib.byteCells [c.toUInt8] = [.int .u8 (c : Int)] := by
    have : c.toUInt8.toNat = c := by simp; omega
    show [Value.int .u8 ((c.toUInt8.toNat : Nat) : Int)] = _
    rw [this]
  rw [e]
  exact h2
theorem wsq (b : Nat) (A S : List UInt8) (U : ByteArray) (w : World) (hU : U = ⟨S.toArray⟩) (h : Bld b b (Lib.byteCells A) w) (hl : A.length + S.length ≤ 100000000) :
    Calls Tryz.prog 68 #[.pointer (some ⟨b, 0, none⟩), .string U] w fun e w' => e = .returned (.tuple #[.int .i64 (S.length : Nat), .nilIface]) ∧ Bld b b (Lib.byteCells (A ++ S)) w' ∧ Below b w w' := by
  subst hU
  have hs : (⟨S.toArray⟩ : ByteArray).size = S.length := by simp [ByteArray.size]
  refine (writeString_any b b _ _ w h (by rw [Lib.byteCells_length, hs]; omega) (Nat.le_of_lt (bld_lt h))).mono ?_
  rintro e w' ⟨h1, h2, h3, h4⟩
  exact ⟨by rw [h1, hs], by rw [Lib.byteCells_append, ← strCells_txt S]; exact h2, h3⟩
set_option maxRecDepth 100000 in
set_option maxHeartbeats 6400000 in
theorem quote_any (P : ByteArray) (w : World) (hs : P.size ≤ 1048576) : Calls Tryz.prog 92 #[.string P] w (Ans (.string ⟨(quoted (bl P)).toArray⟩) w) := by
  have hlen := bl_length P
  have HB := Lib.hid (bld_new w)
  have HQ := Lib.hid (show quoted (bl P) = quoTo (bl P) P.size ++ [39] by rw [quoted, hlen])
  go_enter Tryz.func92, Tryz.ntmps92
  repeat (first | go_values | go_skip | go_guarded | go_step | go_upon)
  refine (wbq w.heap.size [] 39 _ (by decide) (by simpa [Lib.byteCells] using HB.out) (by simp)).mono ?_
  rintro e w1 ⟨rfl, hB1, hb1⟩
  have hW1 : Below w.heap.size w w1 := ((Below.refl _ _).alloc (Nat.le_refl _) _).trans hb1
  dsimp only
  repeat (first | go_values | go_skip | go_guarded | go_step | go_upon)
  go_loopw [10] (fun t wr => ∃ k : Nat, t = .int .i64 (k : Int) ∧ k ≤ P.size ∧ Bld w.heap.size w.heap.size (Lib.byteCells (quoTo (bl P) k)) wr ∧ Below w.heap.size w wr) (fun t _ => P.size - (intOf t).toNat)
  case atStart => exact ⟨0, rfl, Nat.zero_le _, hB1, hW1⟩
  case round =>
    obtain ⟨k, rfl, hk, hB, hb⟩ := hrel
    have hq4 := quoTo_len (bl P) k
    have qB := bld_lt hB
    rcases Nat.lt_or_ge k P.size with hlt | hge
    · have hv := byteAt_ba hlt
      have h256 := UInt8.toNat_lt P[k]
      have k1 : decide (k < P.size) = true := by simpa using hlt
      have hst : quoTo (bl P) (k + 1) = quoTo (bl P) k ++ qch P[k].toNat := by rw [quoTo, hv]
      rcases qch_kinds P[k].toNat h256 with h | h | h
      · have hj : ∃ (j : Nat) (x : UInt8), j < 5 ∧ Lib.indexByte [10, 13, 9, 39, 92] P[k].toNat.toUInt8 = j ∧ (⟨#[92]⟩ ++ (⟨#[110, 114, 116, 39, 92]⟩ : ByteArray).extract j (j + 1) : ByteArray) = ⟨[92, x].toArray⟩ ∧ qch P[k].toNat = [92, x] := by
          rcases h with h | h | h | h | h <;> rw [h]
          · exact ⟨0, 110, by decide, by decide, by decide, by decide⟩
          · exact ⟨1, 114, by decide, by decide, by decide, by decide⟩
          · exact ⟨2, 116, by decide, by decide, by decide, by decide⟩
          · exact ⟨3, 39, by decide, by decide, by decide, by decide⟩
          · exact ⟨4, 92, by decide, by decide, by decide, by decide⟩
        obtain ⟨j, x, hj5, hj1, hj2, hj3⟩ := hj
        have HI := Lib.hid (fun w' => idx_any ⟨#[10, 13, 9, 39, 92]⟩ (P[k].toNat : Int) (j : Int) w' (by simpa using hj1))
        have H2 := Lib.hid hj2
        have HS := Lib.hid (hst.trans (by rw [hj3]))
        clear hv h hst hj1 hj2 hj3
        repeat (first | go_values | go_skip | go_guarded | go_step | go_upon)
        refine (HI.out _).mono ?_
        rintro e w2 ⟨rfl, hb2⟩
        have hB2 := bld_below hB hb2
        dsimp only
        repeat (first | go_values | go_skip | go_guarded | go_step | go_upon)
        refine (wsq w.heap.size (quoTo (bl P) k) [92, x] _ _ H2.out hB2 (by simp; omega)).mono ?_
        rintro e w3 ⟨rfl, hB3, hb3⟩
        dsimp only
        repeat (first | go_values | go_skip | go_guarded | go_step | go_upon)
        refine ⟨⟨k + 1, by go_num, by omega, by rw [HS.out]; exact hB3, (bstep hb hb2).trans hb3⟩, by simp [intOf]; omega⟩
      · have HI := Lib.hid (fun w' => idx_any ⟨#[10, 13, 9, 39, 92]⟩ (P[k].toNat : Int) (-1) w' (by simpa using qmark_no h256 h.1 h.2.1 h.2.2.1 h.2.2.2.1 h.2.2.2.2.1))
        have HS := Lib.hid (hst.trans (by rw [qch_plain h]))
        have d1 : decide ((P[k].toNat : Int) < 32) = false := by simp; omega
        have d2 : decide ((126 : Int) < P[k].toNat) = false := by simp; omega
        clear hv h hst
        repeat (first | go_values | go_skip | go_guarded | go_step | go_upon)
        refine (HI.out _).mono ?_
        rintro e w2 ⟨rfl, hb2⟩
        have hB2 := bld_below hB hb2
        dsimp only
        repeat (first | go_values | go_skip | go_guarded | go_step | go_upon)
        refine (wbq w.heap.size (quoTo (bl P) k) P[k].toNat _ h256 hB2 (by omega)).mono ?_
        rintro e w3 ⟨rfl, hB3, hb3⟩
        dsimp only
        repeat (first | go_values | go_skip | go_guarded | go_step | go_upon)
        refine ⟨⟨k + 1, by go_num, by omega, by rw [HS.out]; exact hB3, (bstep hb hb2).trans hb3⟩, by simp [intOf]; omega⟩
      · have HI := Lib.hid (fun w' => idx_any ⟨#[10, 13, 9, 39, 92]⟩ (P[k].toNat : Int) (-1) w' (by simpa using qmark_no h256 h.1 h.2.1 h.2.2.1 h.2.2.2.1 h.2.2.2.2.1))
        have HS := Lib.hid (hst.trans (by rw [qch_hex h]))
        have hdd : (decide ((P[k].toNat : Int) < 32) = true) ∨ (decide ((P[k].toNat : Int) < 32) = false ∧ decide ((126 : Int) < P[k].toNat) = true) := by
          simp only [decide_eq_true_eq, decide_eq_false_iff_not]; omega
        have e1 : (P[k].toNat : Int) / 16 = ((P[k].toNat / 16 : Nat) : Int) := by omega
        have e2 : bits .and .u8 (P[k].toNat : Int) 15 = ((P[k].toNat % 16 : Nat) : Int) := and15 _ h256
        have x1 := Lib.hid (hexd_at (P[k].toNat / 16) (by omega))
        have x2 := Lib.hid (hexd_at (P[k].toNat % 16) (by omega))
        have b1 : P[k].toNat / 16 < 16 := by omega
        have b2 : P[k].toNat % 16 < 16 := by omega
        clear hv h hst
        generalize P[k].toNat / 16 = p at *
        generalize P[k].toNat % 16 = q at *
        have w1 : IntKind.u8.wrap ((p : Int) + 1) = (p : Int) + 1 := by rw [IntKind.wrap_u8]; omega
        have w2' : IntKind.u8.wrap ((q : Int) + 1) = (q : Int) + 1 := by rw [IntKind.wrap_u8]; omega
        have c1 : (p : Int) + 1 ≤ 16 := by omega
        have c2 : (q : Int) + 1 ≤ 16 := by omega
        have c3 : (0 : Int) ≤ (p : Int) ∧ (p : Int) ≤ (p : Int) + 1 := by omega
        have c4 : (0 : Int) ≤ (q : Int) ∧ (q : Int) ≤ (q : Int) + 1 := by omega
        have m1 : min (p + 1) 16 - p = 1 := by omega
        have m2 : min (q + 1) 16 - q = 1 := by omega
        have t1 : ((p : Int) + 1).toNat = p + 1 := by omega
        have t2 : ((q : Int) + 1).toNat = q + 1 := by omega
        rcases hdd with d1 | ⟨d1, d2⟩
        all_goals
          repeat (first | go_values | go_skip | go_guarded | go_step | go_upon)
          refine (HI.out _).mono ?_
          rintro e w2 ⟨rfl, hb2⟩
          have hB2 := bld_below hB hb2
          dsimp only
          repeat (first | go_values | go_skip | go_guarded | go_step | go_upon)
          go_still_tail 14, (by kernel_rfl)
          repeat (first | go_values | go_skip | go_guarded | go_step | go_upon)
          refine (wsq w.heap.size (quoTo (bl P) k) [92, 120, hexd p, hexd q] _ _ ?_ (bld_below hB2 (drew_below _)) (by simp; omega)).mono ?_
          · rw [x1.out, x2.out]; rfl
          rintro e w3 ⟨rfl, hB3, hb3⟩
          dsimp only
          repeat (first | go_values | go_skip | go_guarded | go_step | go_upon)
          refine ⟨⟨k + 1, by go_num, by omega, by rw [HS.out]; exact hB3, (bstep (bstep hb hb2) (drew_below _)).trans hb3⟩, by simp [intOf]; omega⟩
    · obtain rfl : k = P.size := by omega
      repeat (first | go_values | go_skip | go_guarded | go_step | go_upon)
      refine (wbq w.heap.size (quoTo (bl P) P.size) 39 _ (by decide) hB (by omega)).mono ?_
      rintro e w3 ⟨rfl, hB3, hb3⟩
      dsimp only
      repeat (first | go_values | go_skip | go_guarded | go_step | go_upon)
      refine (Tryz.Builder_String_any_k w.heap.size w.heap.size _ _ hB3 (Nat.le_of_lt (bld_lt hB3))).mono ?_
      rintro e w4 ⟨rfl, hB4, hb4, ho4⟩
      dsimp only
      repeat (first | go_values | go_skip | go_guarded | go_step | go_upon)
      go_ret
      refine ⟨?_, (hb.trans hb3).trans hb4⟩
      rw [HQ.out]
      rfl
end Go.Proofs.YtjlcoldnhbkcgaaGreatDoor
namespace Go.Proofs.YtjlcoldnhbkcgaaGreatDoor
open Go.RowKit Go.Sort

theorem mkS_bl' (t : List UInt8) : bl (mkS t) = t := by simp [bl, mkS]
theorem quoted_le (p : List UInt8) : (quoted p).length ≤ 4 * p.length + 2 := by
  have := quoTo_len p p.length
  rw [quoted, List.length_append, List.length_singleton]
  omega
theorem txt_le (c : BitVec 256) : (txt c).length ≤ 2400 := by
  have h := txK_len (runs c) (runs c).length
  have h2 : (runs c).length ≤ 257 := runs_len c 257 _
  rw [txt, List.length_append, List.length_singleton]
  omega
set_option maxRecDepth 100000 in
set_option maxHeartbeats 6400000 in
theorem expr_k1 {p : Int} {t : List UInt8} {c : BitVec 256} {a : Option Addr} {n cap : Nat} (b : Nat) (A : List UInt8) (w : World) (hp : Pg b b (Lib.byteCells A) w) (hA : A.length ≤ 99999999997000) :
    Calls Tryz.prog 69 #[.pointer (some ⟨b, 0, none⟩), .agg (trC 1 t c (.slice a n cap) p).toArray] w (PgP b A [40, 41] 2 w) := by
  have hlt := pg_lt hp
  have hm1 := cell_alloc_lt
  have HPg := Lib.hid hp
  have HWD := Lib.hid (fun (q : Bool) (hq : decide (8192 < A.length) = q) (w' : World) (h : Below w.heap.size w w') => wide_any b A q hq w' (pg_below hp h))
  clear hp
  dsimp only [trC]
  by_cases hw : 8192 < A.length
  · have HQ := Lib.hid (HWD.out true (decide_eq_true hw))
    go_enter Tryz.func69, Tryz.ntmps69
    repeat (first | go_values | go_skip | go_guarded | go_step | go_upon)
    refine (HQ.out _ (by repeat (first | exact Below.refl _ _ | assumption | refine bal ?_ _ | refine bdr ?_ | refine bdrn ?_ _ | (refine bset ?_ (by first | exact Nat.le_refl _ | (simp; done) | (simp; omega) | omega) _) | refine bstep ?_ (by assumption)))).mono ?_
    rintro e w1 ⟨rfl, hb1⟩
    obtain ⟨hc1, hf1⟩ := bcell hb1
    have hz1 := hb1.size
    try simp at hz1
    dsimp only
    have hw1 : Below w.heap.size w w1 := (by repeat (first | exact Below.refl _ _ | assumption | refine bal ?_ _ | refine bdr ?_ | refine bdrn ?_ _ | (refine bset ?_ (by first | exact Nat.le_refl _ | (simp; done) | (simp; omega) | omega) _) | refine bstep ?_ (by assumption)))
    repeat (first | go_values | go_skip | go_guarded | go_step | go_upon)
    first | go_end0 | go_ret | (refine bodyPost_ret (v := .tuple #[]) (by rfl) rfl ?_)
    exact ⟨rfl, A, Wr.wide hw, by omega, pg_below HPg.out hw1, hw1.mono (Nat.le_of_lt hlt), oth_below b hw1⟩
  · have HQ := Lib.hid (HWD.out false (decide_eq_false hw))
    clear hw
    go_enter Tryz.func69, Tryz.ntmps69
    repeat (first | go_values | go_skip | go_guarded | go_step | go_upon)
    refine (HQ.out _ (by repeat (first | exact Below.refl _ _ | assumption | refine bal ?_ _ | refine bdr ?_ | refine bdrn ?_ _ | (refine bset ?_ (by first | exact Nat.le_refl _ | (simp; done) | (simp; omega) | omega) _) | refine bstep ?_ (by assumption)))).mono ?_
    rintro e w1 ⟨rfl, hb1⟩
    obtain ⟨hc1, hf1⟩ := bcell hb1
    have hz1 := hb1.size
    try simp at hz1
    dsimp only
    have hw1 : Below w.heap.size w w1 := (by repeat (first | exact Below.refl _ _ | assumption | refine bal ?_ _ | refine bdr ?_ | refine bdrn ?_ _ | (refine bset ?_ (by first | exact Nat.le_refl _ | (simp; done) | (simp; omega) | omega) _) | refine bstep ?_ (by assumption)))
    have hwb : Below b w w1 := hw1.mono (Nat.le_of_lt hlt)
    have hP1 := pg_below HPg.out hw1
    have ho1 := oth_below b hw1
    have hbp := (hb1.block w.heap.size (by simp; omega)).trans ((RowKit.Below.heap_alloc _ _ _ (by simp)).trans (heap_alloc_new w _))
    have hbn := (hb1.block (w.heap.size + 1) (by simp)).trans (allocs_new w _ _)
    have cP := (cells_at hbp).1 0
    have cN := (cells_at hbn).1
    simp only [List.getElem?_toArray, List.getElem?_cons_zero] at cP
    have qb1 := pg_lt hP1
    have hwbd : Below b w w1.drew := hwb.trans ((drew_below w1).mono (Nat.le_of_lt qb1))
    have hod : Oth b w w1.drew := ho1.trans (oth_below b (drew_below w1))
    have qP : w.heap.size < w1.heap.size := (Array.getElem?_eq_some_iff.1 hbp).1
    have qN : w.heap.size + 1 < w1.heap.size := (Array.getElem?_eq_some_iff.1 hbn).1
    have HBP := Lib.hid hbp
    have HBN := Lib.hid hbn
    clear hbp hbn HQ HWD
    repeat (first | go_values | go_skip | go_guarded | go_step | go_upon)
    refine (pg_ws b A [40, 41] _ hP1 (by simp; omega)).mono ?_
    rintro e w2 ⟨rfl, hB2, hb2, ho2⟩
    dsimp only
    repeat (first | go_values | go_skip | go_guarded | go_step | go_upon)
    first | go_end0 | go_ret | (refine bodyPost_ret (v := .tuple #[]) (by rfl) rfl ?_)
    exact ⟨rfl, A ++ [40, 41], Wr.put A _, by simp, hB2, hwb.trans hb2, ho1.trans ho2⟩
set_option maxRecDepth 100000 in
set_option maxHeartbeats 6400000 in
theorem expr_k4 {p : Int} {t : List UInt8} {c : BitVec 256} {a : Option Addr} {n cap : Nat} (b : Nat) (A : List UInt8) (w : World) (hp : Pg b b (Lib.byteCells A) w) (hA : A.length ≤ 99999999997000) :
    Calls Tryz.prog 69 #[.pointer (some ⟨b, 0, none⟩), .agg (trC 4 t c (.slice a n cap) p).toArray] w (PgP b A [46] 1 w) := by
  have hlt := pg_lt hp
  have hm1 := cell_alloc_lt
  have HPg := Lib.hid hp
  have HWD := Lib.hid (fun (q : Bool) (hq : decide (8192 < A.length) = q) (w' : World) (h : Below w.heap.size w w') => wide_any b A q hq w' (pg_below hp h))
  clear hp
  dsimp only [trC]
  by_cases hw : 8192 < A.length
  · have HQ := Lib.hid (HWD.out true (decide_eq_true hw))
    go_enter Tryz.func69, Tryz.ntmps69
    repeat (first | go_values | go_skip | go_guarded | go_step | go_upon)
    refine (HQ.out _ (by repeat (first | exact Below.refl _ _ | assumption | refine bal ?_ _ | refine bdr ?_ | refine bdrn ?_ _ | (refine bset ?_ (by first | exact Nat.le_refl _ | (simp; done) | (simp; omega) | omega) _) | refine bstep ?_ (by assumption)))).mono ?_
    rintro e w1 ⟨rfl, hb1⟩
    obtain ⟨hc1, hf1⟩ := bcell hb1
    have hz1 := hb1.size
    try simp at hz1
    dsimp only
    have hw1 : Below w.heap.size w w1 := (by repeat (first | exact Below.refl _ _ | assumption | refine bal ?_ _ | refine bdr ?_ | refine bdrn ?_ _ | (refine bset ?_ (by first | exact Nat.le_refl _ | (simp; done) | (simp; omega) | omega) _) | refine bstep ?_ (by assumption)))
    repeat (first | go_values | go_skip | go_guarded | go_step | go_upon)
    first | go_end0 | go_ret | (refine bodyPost_ret (v := .tuple #[]) (by rfl) rfl ?_)
    exact ⟨rfl, A, Wr.wide hw, by omega, pg_below HPg.out hw1, hw1.mono (Nat.le_of_lt hlt), oth_below b hw1⟩
  · have HQ := Lib.hid (HWD.out false (decide_eq_false hw))
    clear hw
    go_enter Tryz.func69, Tryz.ntmps69
    repeat (first | go_values | go_skip | go_guarded | go_step | go_upon)
    refine (HQ.out _ (by repeat (first | exact Below.refl _ _ | assumption | refine bal ?_ _ | refine bdr ?_ | refine bdrn ?_ _ | (refine bset ?_ (by first | exact Nat.le_refl _ | (simp; done) | (simp; omega) | omega) _) | refine bstep ?_ (by assumption)))).mono ?_
    rintro e w1 ⟨rfl, hb1⟩
    obtain ⟨hc1, hf1⟩ := bcell hb1
    have hz1 := hb1.size
    try simp at hz1
    dsimp only
    have hw1 : Below w.heap.size w w1 := (by repeat (first | exact Below.refl _ _ | assumption | refine bal ?_ _ | refine bdr ?_ | refine bdrn ?_ _ | (refine bset ?_ (by first | exact Nat.le_refl _ | (simp; done) | (simp; omega) | omega) _) | refine bstep ?_ (by assumption)))
    have hwb : Below b w w1 := hw1.mono (Nat.le_of_lt hlt)
    have hP1 := pg_below HPg.out hw1
    have ho1 := oth_below b hw1
    have hbp := (hb1.block w.heap.size (by simp; omega)).trans ((RowKit.Below.heap_alloc _ _ _ (by simp)).trans (heap_alloc_new w _))
    have hbn := (hb1.block (w.heap.size + 1) (by simp)).trans (allocs_new w _ _)
    have cP := (cells_at hbp).1 0
    have cN := (cells_at hbn).1
    simp only [List.getElem?_toArray, List.getElem?_cons_zero] at cP
    have qb1 := pg_lt hP1
    have hwbd : Below b w w1.drew := hwb.trans ((drew_below w1).mono (Nat.le_of_lt qb1))
    have hod : Oth b w w1.drew := ho1.trans (oth_below b (drew_below w1))
    have qP : w.heap.size < w1.heap.size := (Array.getElem?_eq_some_iff.1 hbp).1
    have qN : w.heap.size + 1 < w1.heap.size := (Array.getElem?_eq_some_iff.1 hbn).1
    have HBP := Lib.hid hbp
    have HBN := Lib.hid hbn
    clear hbp hbn HQ HWD
    repeat (first | go_values | go_skip | go_guarded | go_step | go_upon)
    refine (pg_wb b A 46 46 _ rfl hP1 (by omega)).mono ?_
    rintro e w2 ⟨rfl, hB2, hb2, ho2⟩
    dsimp only
    repeat (first | go_values | go_skip | go_guarded | go_step | go_upon)
    first | go_end0 | go_ret | (refine bodyPost_ret (v := .tuple #[]) (by rfl) rfl ?_)
    exact ⟨rfl, A ++ [46], Wr.put A _, by simp, hB2, hwb.trans hb2, ho1.trans ho2⟩
set_option maxRecDepth 100000 in
set_option maxHeartbeats 6400000 in
theorem expr_k5 {p : Int} {t : List UInt8} {c : BitVec 256} {a : Option Addr} {n cap : Nat} (b : Nat) (A : List UInt8) (w : World) (hp : Pg b b (Lib.byteCells A) w) (hA : A.length ≤ 99999999997000) (ht : t.length ≤ 32) :
    Calls Tryz.prog 69 #[.pointer (some ⟨b, 0, none⟩), .agg (trC 5 t c (.slice a n cap) p).toArray] w (PgP b A t 32 w) := by
  have hlt := pg_lt hp
  have hm1 := cell_alloc_lt
  have HPg := Lib.hid hp
  have HWD := Lib.hid (fun (q : Bool) (hq : decide (8192 < A.length) = q) (w' : World) (h : Below w.heap.size w w') => wide_any b A q hq w' (pg_below hp h))
  clear hp
  dsimp only [trC]
  by_cases hw : 8192 < A.length
  · have HQ := Lib.hid (HWD.out true (decide_eq_true hw))
    go_enter Tryz.func69, Tryz.ntmps69
    repeat (first | go_values | go_skip | go_guarded | go_step | go_upon)
    refine (HQ.out _ (by repeat (first | exact Below.refl _ _ | assumption | refine bal ?_ _ | refine bdr ?_ | refine bdrn ?_ _ | (refine bset ?_ (by first | exact Nat.le_refl _ | (simp; done) | (simp; omega) | omega) _) | refine bstep ?_ (by assumption)))).mono ?_
    rintro e w1 ⟨rfl, hb1⟩
    obtain ⟨hc1, hf1⟩ := bcell hb1
    have hz1 := hb1.size
    try simp at hz1
    dsimp only
    have hw1 : Below w.heap.size w w1 := (by repeat (first | exact Below.refl _ _ | assumption | refine bal ?_ _ | refine bdr ?_ | refine bdrn ?_ _ | (refine bset ?_ (by first | exact Nat.le_refl _ | (simp; done) | (simp; omega) | omega) _) | refine bstep ?_ (by assumption)))
    repeat (first | go_values | go_skip | go_guarded | go_step | go_upon)
    first | go_end0 | go_ret | (refine bodyPost_ret (v := .tuple #[]) (by rfl) rfl ?_)
    exact ⟨rfl, A, Wr.wide hw, by omega, pg_below HPg.out hw1, hw1.mono (Nat.le_of_lt hlt), oth_below b hw1⟩
  · have HQ := Lib.hid (HWD.out false (decide_eq_false hw))
    clear hw
    go_enter Tryz.func69, Tryz.ntmps69
    repeat (first | go_values | go_skip | go_guarded | go_step | go_upon)
    refine (HQ.out _ (by repeat (first | exact Below.refl _ _ | assumption | refine bal ?_ _ | refine bdr ?_ | refine bdrn ?_ _ | (refine bset ?_ (by first | exact Nat.le_refl _ | (simp; done) | (simp; omega) | omega) _) | refine bstep ?_ (by assumption)))).mono ?_
    rintro e w1 ⟨rfl, hb1⟩
    obtain ⟨hc1, hf1⟩ := bcell hb1
    have hz1 := hb1.size
    try simp at hz1
    dsimp only
    have hw1 : Below w.heap.size w w1 := (by repeat (first | exact Below.refl _ _ | assumption | refine bal ?_ _ | refine bdr ?_ | refine bdrn ?_ _ | (refine bset ?_ (by first | exact Nat.le_refl _ | (simp; done) | (simp; omega) | omega) _) | refine bstep ?_ (by assumption)))
    have hwb : Below b w w1 := hw1.mono (Nat.le_of_lt hlt)
    have hP1 := pg_below HPg.out hw1
    have ho1 := oth_below b hw1
    have hbp := (hb1.block w.heap.size (by simp; omega)).trans ((RowKit.Below.heap_alloc _ _ _ (by simp)).trans (heap_alloc_new w _))
    have hbn := (hb1.block (w.heap.size + 1) (by simp)).trans (allocs_new w _ _)
    have cP := (cells_at hbp).1 0
    have cN := (cells_at hbn).1
    simp only [List.getElem?_toArray, List.getElem?_cons_zero] at cP
    have qb1 := pg_lt hP1
    have hwbd : Below b w w1.drew := hwb.trans ((drew_below w1).mono (Nat.le_of_lt qb1))
    have hod : Oth b w w1.drew := ho1.trans (oth_below b (drew_below w1))
    have qP : w.heap.size < w1.heap.size := (Array.getElem?_eq_some_iff.1 hbp).1
    have qN : w.heap.size + 1 < w1.heap.size := (Array.getElem?_eq_some_iff.1 hbn).1
    have HBP := Lib.hid hbp
    have HBN := Lib.hid hbn
    clear hbp hbn HQ HWD
    repeat (first | go_values | go_skip | go_guarded | go_step | go_upon)
    go_region_with (go_at_call 68; refine (pg_ws b A t _ (pg_below hP1 (by repeat (first | exact Below.refl _ _ | assumption | refine bal ?_ _ | refine bdr ?_ | refine bdrn ?_ _ | (refine bset ?_ (by first | exact Nat.le_refl _ | (simp; done) | (simp; omega) | omega) _) | refine bstep ?_ (by assumption)))) (by omega)).mono ?_; rintro e w2 ⟨rfl, hB2, hb2, ho2⟩; try dsimp only)
    all_goals (first | go_end0 | go_ret | (refine bodyPost_ret (v := .tuple #[]) (by rfl) rfl ?_))
    all_goals (exact ⟨rfl, A ++ t, Wr.put A _, by simp; omega, hB2, hwbd.trans hb2, hod.trans ho2⟩)
set_option maxRecDepth 100000 in
set_option maxHeartbeats 6400000 in
theorem expr_k2 {p : Int} {t : List UInt8} {c : BitVec 256} {a : Option Addr} {n cap : Nat} (b : Nat) (A : List UInt8) (w : World) (hp : Pg b b (Lib.byteCells A) w) (hA : A.length ≤ 99999999997000) (ht : t.length ≤ 255) :
    Calls Tryz.prog 69 #[.pointer (some ⟨b, 0, none⟩), .agg (trC 2 t c (.slice a n cap) p).toArray] w (PgP b A (quoted t) 1022 w) := by
  have hlt := pg_lt hp
  have hm1 := cell_alloc_lt
  have HPg := Lib.hid hp
  have HWD := Lib.hid (fun (q : Bool) (hq : decide (8192 < A.length) = q) (w' : World) (h : Below w.heap.size w w') => wide_any b A q hq w' (pg_below hp h))
  have HQU := Lib.hid (fun w => quote_any (mkS t) w (by rw [mkS_size]; omega))
  rw [mkS_bl'] at HQU
  have hql := quoted_le t
  clear hp
  dsimp only [trC]
  by_cases hw : 8192 < A.length
  · have HQ := Lib.hid (HWD.out true (decide_eq_true hw))
    go_enter Tryz.func69, Tryz.ntmps69
    repeat (first | go_values | go_skip | go_guarded | go_step | go_upon)
    refine (HQ.out _ (by repeat (first | exact Below.refl _ _ | assumption | refine bal ?_ _ | refine bdr ?_ | refine bdrn ?_ _ | (refine bset ?_ (by first | exact Nat.le_refl _ | (simp; done) | (simp; omega) | omega) _) | refine bstep ?_ (by assumption)))).mono ?_
    rintro e w1 ⟨rfl, hb1⟩
    obtain ⟨hc1, hf1⟩ := bcell hb1
    have hz1 := hb1.size
    try simp at hz1
    dsimp only
    have hw1 : Below w.heap.size w w1 := (by repeat (first | exact Below.refl _ _ | assumption | refine bal ?_ _ | refine bdr ?_ | refine bdrn ?_ _ | (refine bset ?_ (by first | exact Nat.le_refl _ | (simp; done) | (simp; omega) | omega) _) | refine bstep ?_ (by assumption)))
    repeat (first | go_values | go_skip | go_guarded | go_step | go_upon)
    first | go_end0 | go_ret | (refine bodyPost_ret (v := .tuple #[]) (by rfl) rfl ?_)
    exact ⟨rfl, A, Wr.wide hw, by omega, pg_below HPg.out hw1, hw1.mono (Nat.le_of_lt hlt), oth_below b hw1⟩
  · have HQ := Lib.hid (HWD.out false (decide_eq_false hw))
    clear hw
    go_enter Tryz.func69, Tryz.ntmps69
    repeat (first | go_values | go_skip | go_guarded | go_step | go_upon)
    refine (HQ.out _ (by repeat (first | exact Below.refl _ _ | assumption | refine bal ?_ _ | refine bdr ?_ | refine bdrn ?_ _ | (refine bset ?_ (by first | exact Nat.le_refl _ | (simp; done) | (simp; omega) | omega) _) | refine bstep ?_ (by assumption)))).mono ?_
    rintro e w1 ⟨rfl, hb1⟩
    obtain ⟨hc1, hf1⟩ := bcell hb1
    have hz1 := hb1.size
    try simp at hz1
    dsimp only
    have hw1 : Below w.heap.size w w1 := (by repeat (first | exact Below.refl _ _ | assumption | refine bal ?_ _ | refine bdr ?_ | refine bdrn ?_ _ | (refine bset ?_ (by first | exact Nat.le_refl _ | (simp; done) | (simp; omega) | omega) _) | refine bstep ?_ (by assumption)))
    have hwb : Below b w w1 := hw1.mono (Nat.le_of_lt hlt)
    have hP1 := pg_below HPg.out hw1
    have ho1 := oth_below b hw1
    have hbp := (hb1.block w.heap.size (by simp; omega)).trans ((RowKit.Below.heap_alloc _ _ _ (by simp)).trans (heap_alloc_new w _))
    have hbn := (hb1.block (w.heap.size + 1) (by simp)).trans (allocs_new w _ _)
    have cP := (cells_at hbp).1 0
    have cN := (cells_at hbn).1
    simp only [List.getElem?_toArray, List.getElem?_cons_zero] at cP
    have qb1 := pg_lt hP1
    have hwbd : Below b w w1.drew := hwb.trans ((drew_below w1).mono (Nat.le_of_lt qb1))
    have hod : Oth b w w1.drew := ho1.trans (oth_below b (drew_below w1))
    have qP : w.heap.size < w1.heap.size := (Array.getElem?_eq_some_iff.1 hbp).1
    have qN : w.heap.size + 1 < w1.heap.size := (Array.getElem?_eq_some_iff.1 hbn).1
    have HBP := Lib.hid hbp
    have HBN := Lib.hid hbn
    clear hbp hbn HQ HWD
    repeat (first | go_values | go_skip | go_guarded | go_step | go_upon)
    go_region_with (first | (go_at_call 92; refine (HQU.out _).mono ?_; rintro e w3 ⟨rfl, hb3⟩; have cP3 := (hb3.cell (p := ⟨w.heap.size, 0, none⟩) qP).trans cP; have hP3 := pg_below (pg_below hP1 (drew_below w1)) hb3; try dsimp only) | (go_at_call 68; refine (pg_ws b A (quoted t) _ hP3 (by omega)).mono ?_; rintro e w2 ⟨rfl, hB2, hb2, ho2⟩; try dsimp only))
    all_goals (first | go_end0 | go_ret | (refine bodyPost_ret (v := .tuple #[]) (by rfl) rfl ?_))
    all_goals (exact ⟨rfl, A ++ (quoted t), Wr.put A _, by rw [List.length_append]; omega, hB2, hwbd.trans ((hb3.mono (Nat.le_of_lt qb1)).trans hb2), hod.trans ((oth_below b hb3).trans ho2)⟩)
set_option maxRecDepth 100000 in
set_option maxHeartbeats 6400000 in
theorem expr_k3 {p : Int} {t : List UInt8} {c : BitVec 256} {a : Option Addr} {n cap : Nat} (b : Nat) (A : List UInt8) (w : World) (hp : Pg b b (Lib.byteCells A) w) (hA : A.length ≤ 99999999997000) :
    Calls Tryz.prog 69 #[.pointer (some ⟨b, 0, none⟩), .agg (trC 3 t c (.slice a n cap) p).toArray] w (PgP b A (txt c) 2400 w) := by
  have hlt := pg_lt hp
  have hm1 := cell_alloc_lt
  have HPg := Lib.hid hp
  have HWD := Lib.hid (fun (q : Bool) (hq : decide (8192 < A.length) = q) (w' : World) (h : Below w.heap.size w w') => wide_any b A q hq w' (pg_below hp h))
  have HQU := Lib.hid (fun w => text_any c w)
  have hql := txt_le c
  clear hp
  dsimp only [trC]
  by_cases hw : 8192 < A.length
  · have HQ := Lib.hid (HWD.out true (decide_eq_true hw))
    go_enter Tryz.func69, Tryz.ntmps69
    repeat (first | go_values | go_skip | go_guarded | go_step | go_upon)
    refine (HQ.out _ (by repeat (first | exact Below.refl _ _ | assumption | refine bal ?_ _ | refine bdr ?_ | refine bdrn ?_ _ | (refine bset ?_ (by first | exact Nat.le_refl _ | (simp; done) | (simp; omega) | omega) _) | refine bstep ?_ (by assumption)))).mono ?_
    rintro e w1 ⟨rfl, hb1⟩
    obtain ⟨hc1, hf1⟩ := bcell hb1
    have hz1 := hb1.size
    try simp at hz1
    dsimp only
    have hw1 : Below w.heap.size w w1 := (by repeat (first | exact Below.refl _ _ | assumption | refine bal ?_ _ | refine bdr ?_ | refine bdrn ?_ _ | (refine bset ?_ (by first | exact Nat.le_refl _ | (simp; done) | (simp; omega) | omega) _) | refine bstep ?_ (by assumption)))
    repeat (first | go_values | go_skip | go_guarded | go_step | go_upon)
    first | go_end0 | go_ret | (refine bodyPost_ret (v := .tuple #[]) (by rfl) rfl ?_)
    exact ⟨rfl, A, Wr.wide hw, by omega, pg_below HPg.out hw1, hw1.mono (Nat.le_of_lt hlt), oth_below b hw1⟩
  · have HQ := Lib.hid (HWD.out false (decide_eq_false hw))
    clear hw
    go_enter Tryz.func69, Tryz.ntmps69
    repeat (first | go_values | go_skip | go_guarded | go_step | go_upon)
    refine (HQ.out _ (by repeat (first | exact Below.refl _ _ | assumption | refine bal ?_ _ | refine bdr ?_ | refine bdrn ?_ _ | (refine bset ?_ (by first | exact Nat.le_refl _ | (simp; done) | (simp; omega) | omega) _) | refine bstep ?_ (by assumption)))).mono ?_
    rintro e w1 ⟨rfl, hb1⟩
    obtain ⟨hc1, hf1⟩ := bcell hb1
    have hz1 := hb1.size
    try simp at hz1
    dsimp only
    have hw1 : Below w.heap.size w w1 := (by repeat (first | exact Below.refl _ _ | assumption | refine bal ?_ _ | refine bdr ?_ | refine bdrn ?_ _ | (refine bset ?_ (by first | exact Nat.le_refl _ | (simp; done) | (simp; omega) | omega) _) | refine bstep ?_ (by assumption)))
    have hwb : Below b w w1 := hw1.mono (Nat.le_of_lt hlt)
    have hP1 := pg_below HPg.out hw1
    have ho1 := oth_below b hw1
    have hbp := (hb1.block w.heap.size (by simp; omega)).trans ((RowKit.Below.heap_alloc _ _ _ (by simp)).trans (heap_alloc_new w _))
    have hbn := (hb1.block (w.heap.size + 1) (by simp)).trans (allocs_new w _ _)
    have cP := (cells_at hbp).1 0
    have cN := (cells_at hbn).1
    simp only [List.getElem?_toArray, List.getElem?_cons_zero] at cP
    have qb1 := pg_lt hP1
    have hwbd : Below b w w1.drew := hwb.trans ((drew_below w1).mono (Nat.le_of_lt qb1))
    have hod : Oth b w w1.drew := ho1.trans (oth_below b (drew_below w1))
    have qP : w.heap.size < w1.heap.size := (Array.getElem?_eq_some_iff.1 hbp).1
    have qN : w.heap.size + 1 < w1.heap.size := (Array.getElem?_eq_some_iff.1 hbn).1
    have HBP := Lib.hid hbp
    have HBN := Lib.hid hbn
    clear hbp hbn HQ HWD
    repeat (first | go_values | go_skip | go_guarded | go_step | go_upon)
    go_region_with (first | (go_at_call 93; refine (HQU.out _).mono ?_; rintro e w3 ⟨rfl, hb3⟩; have cP3 := (hb3.cell (p := ⟨w.heap.size, 0, none⟩) qP).trans cP; have hP3 := pg_below (pg_below hP1 (drew_below w1)) hb3; try dsimp only) | (go_at_call 68; refine (pg_ws b A (txt c) _ hP3 (by omega)).mono ?_; rintro e w2 ⟨rfl, hB2, hb2, ho2⟩; try dsimp only))
    all_goals (first | go_end0 | go_ret | (refine bodyPost_ret (v := .tuple #[]) (by rfl) rfl ?_))
    all_goals (exact ⟨rfl, A ++ (txt c), Wr.put A _, by rw [List.length_append]; omega, hB2, hwbd.trans ((hb3.mono (Nat.le_of_lt qb1)).trans hb2), hod.trans ((oth_below b hb3).trans ho2)⟩)
end Go.Proofs.YtjlcoldnhbkcgaaGreatDoor
namespace Go.Proofs.YtjlcoldnhbkcgaaGreatDoor
open Go.RowKit Go.Sort

set_option maxRecDepth 100000 in
set_option maxHeartbeats 6400000 in
theorem expr_k7 {p : Int} {t : List UInt8} {c : BitVec 256} {a : Option Addr} {n cap : Nat} (b : Nat) (A : List UInt8) (w : World) (hp : Pg b b (Lib.byteCells A) w) (_ : A.length ≤ 99999999997000) {P : Nat → Prop} {l : List Tr} (_ : l.length = n) (IH : ∀ m ∈ l, ExprC m) (ho : ∀ m ∈ l, OkT m) (hl : RepL w P l (.slice a n cap)) (hP : ∀ x, P x → x < b) (hbk : A.length + 3000 * Tr.bulks l ≤ 99999999997000) :
    Calls Tryz.prog 69 #[.pointer (some ⟨b, 0, none⟩), .agg (trC 7 t c (.slice a n cap) p).toArray] w (PgP b A (rowTx [32, 47, 32] 1 l) (3000 * Tr.bulks l) w) := by
  have hlt := pg_lt hp
  have hm1 := cell_alloc_lt
  have HPg := Lib.hid hp
  have HWD := Lib.hid (fun (q : Bool) (hq : decide (8192 < A.length) = q) (w' : World) (h : Below w.heap.size w w') => wide_any b A q hq w' (pg_below hp h))
  have HI := Lib.hid IH
  have HO := Lib.hid ho
  have HL := Lib.hid hl
  have HP := Lib.hid hP
  have HBK := Lib.hid hbk
  clear IH ho hl hP hbk
  clear hp
  dsimp only [trC]
  by_cases hw : 8192 < A.length
  · have HQ := Lib.hid (HWD.out true (decide_eq_true hw))
    go_enter Tryz.func69, Tryz.ntmps69
    repeat (first | go_values | go_skip | go_guarded | go_step | go_upon)
    refine (HQ.out _ (by repeat (first | exact Below.refl _ _ | assumption | refine bal ?_ _ | refine bdr ?_ | refine bdrn ?_ _ | (refine bset ?_ (by first | exact Nat.le_refl _ | (simp; done) | (simp; omega) | omega) _) | refine bstep ?_ (by assumption)))).mono ?_
    rintro e w1 ⟨rfl, hb1⟩
    obtain ⟨hc1, hf1⟩ := bcell hb1
    have hz1 := hb1.size
    try simp at hz1
    dsimp only
    have hw1 : Below w.heap.size w w1 := (by repeat (first | exact Below.refl _ _ | assumption | refine bal ?_ _ | refine bdr ?_ | refine bdrn ?_ _ | (refine bset ?_ (by first | exact Nat.le_refl _ | (simp; done) | (simp; omega) | omega) _) | refine bstep ?_ (by assumption)))
    repeat (first | go_values | go_skip | go_guarded | go_step | go_upon)
    first | go_end0 | go_ret | (refine bodyPost_ret (v := .tuple #[]) (by rfl) rfl ?_)
    exact ⟨rfl, A, Wr.wide hw, by omega, pg_below HPg.out hw1, hw1.mono (Nat.le_of_lt hlt), oth_below b hw1⟩
  · have HQ := Lib.hid (HWD.out false (decide_eq_false hw))
    clear hw
    go_enter Tryz.func69, Tryz.ntmps69
    repeat (first | go_values | go_skip | go_guarded | go_step | go_upon)
    refine (HQ.out _ (by repeat (first | exact Below.refl _ _ | assumption | refine bal ?_ _ | refine bdr ?_ | refine bdrn ?_ _ | (refine bset ?_ (by first | exact Nat.le_refl _ | (simp; done) | (simp; omega) | omega) _) | refine bstep ?_ (by assumption)))).mono ?_
    rintro e w1 ⟨rfl, hb1⟩
    obtain ⟨hc1, hf1⟩ := bcell hb1
    have hz1 := hb1.size
    try simp at hz1
    dsimp only
    have hw1 : Below w.heap.size w w1 := (by repeat (first | exact Below.refl _ _ | assumption | refine bal ?_ _ | refine bdr ?_ | refine bdrn ?_ _ | (refine bset ?_ (by first | exact Nat.le_refl _ | (simp; done) | (simp; omega) | omega) _) | refine bstep ?_ (by assumption)))
    have hwb : Below b w w1 := hw1.mono (Nat.le_of_lt hlt)
    have hP1 := pg_below HPg.out hw1
    have ho1 := oth_below b hw1
    have hbp := (hb1.block w.heap.size (by simp; omega)).trans ((RowKit.Below.heap_alloc _ _ _ (by simp)).trans (heap_alloc_new w _))
    have hbn := (hb1.block (w.heap.size + 1) (by simp)).trans (allocs_new w _ _)
    have cP := (cells_at hbp).1 0
    have cN := (cells_at hbn).1
    simp only [List.getElem?_toArray, List.getElem?_cons_zero] at cP
    have qb1 := pg_lt hP1
    have hwbd : Below b w w1.drew := hwb.trans ((drew_below w1).mono (Nat.le_of_lt qb1))
    have hod : Oth b w w1.drew := ho1.trans (oth_below b (drew_below w1))
    have qP : w.heap.size < w1.heap.size := (Array.getElem?_eq_some_iff.1 hbp).1
    have qN : w.heap.size + 1 < w1.heap.size := (Array.getElem?_eq_some_iff.1 hbn).1
    have HBP := Lib.hid hbp
    have HBN := Lib.hid hbn
    clear hbp hbn HQ HWD
    repeat (first | go_values | go_skip | go_guarded | go_step | go_upon)
    refine (prow_any HI.out HO.out [32, 47, 32] (by decide) 1 b _ _ A w1 P HBN.out HBP.out (by omega) (by omega) (HL.out.mono (fun y hy => hwb.block y (HP.out y hy)) (fun _ h => h)) HP.out hP1 (by have := HBK.out; omega)).mono ?_
    rintro e w2 ⟨rfl, A', h1, h2, h3, h4, h5⟩
    dsimp only
    repeat (first | go_values | go_skip | go_guarded | go_step | go_upon)
    first | go_end0 | go_ret | (refine bodyPost_ret (v := .tuple #[]) (by rfl) rfl ?_)
    exact ⟨rfl, A', h1, by omega, h3, hwb.trans h4, ho1.trans h5⟩
set_option maxRecDepth 100000 in
set_option maxHeartbeats 6400000 in
theorem expr_k6 {p : Int} {t : List UInt8} {c : BitVec 256} {a : Option Addr} {n cap : Nat} (b : Nat) (A : List UInt8) (w : World) (hp : Pg b b (Lib.byteCells A) w) (_ : A.length ≤ 99999999997000) {P : Nat → Prop} {l : List Tr} (_ : l.length = n) (IH : ∀ m ∈ l, ExprC m) (ho : ∀ m ∈ l, OkT m) (hl : RepL w P l (.slice a n cap)) (hP : ∀ x, P x → x < b) (hbk : A.length + 3000 * Tr.bulks l ≤ 99999999997000) :
    Calls Tryz.prog 69 #[.pointer (some ⟨b, 0, none⟩), .agg (trC 6 t c (.slice a n cap) p).toArray] w (PgP b A (rowTx [32] 2 l) (3000 * Tr.bulks l) w) := by
  have hlt := pg_lt hp
  have hm1 := cell_alloc_lt
  have HPg := Lib.hid hp
  have HWD := Lib.hid (fun (q : Bool) (hq : decide (8192 < A.length) = q) (w' : World) (h : Below w.heap.size w w') => wide_any b A q hq w' (pg_below hp h))
  have HI := Lib.hid IH
  have HO := Lib.hid ho
  have HL := Lib.hid hl
  have HP := Lib.hid hP
  have HBK := Lib.hid hbk
  clear IH ho hl hP hbk
  clear hp
  dsimp only [trC]
  by_cases hw : 8192 < A.length
  · have HQ := Lib.hid (HWD.out true (decide_eq_true hw))
    go_enter Tryz.func69, Tryz.ntmps69
    repeat (first | go_values | go_skip | go_guarded | go_step | go_upon)
    refine (HQ.out _ (by repeat (first | exact Below.refl _ _ | assumption | refine bal ?_ _ | refine bdr ?_ | refine bdrn ?_ _ | (refine bset ?_ (by first | exact Nat.le_refl _ | (simp; done) | (simp; omega) | omega) _) | refine bstep ?_ (by assumption)))).mono ?_
    rintro e w1 ⟨rfl, hb1⟩
    obtain ⟨hc1, hf1⟩ := bcell hb1
    have hz1 := hb1.size
    try simp at hz1
    dsimp only
    have hw1 : Below w.heap.size w w1 := (by repeat (first | exact Below.refl _ _ | assumption | refine bal ?_ _ | refine bdr ?_ | refine bdrn ?_ _ | (refine bset ?_ (by first | exact Nat.le_refl _ | (simp; done) | (simp; omega) | omega) _) | refine bstep ?_ (by assumption)))
    repeat (first | go_values | go_skip | go_guarded | go_step | go_upon)
    first | go_end0 | go_ret | (refine bodyPost_ret (v := .tuple #[]) (by rfl) rfl ?_)
    exact ⟨rfl, A, Wr.wide hw, by omega, pg_below HPg.out hw1, hw1.mono (Nat.le_of_lt hlt), oth_below b hw1⟩
  · have HQ := Lib.hid (HWD.out false (decide_eq_false hw))
    clear hw
    go_enter Tryz.func69, Tryz.ntmps69
    repeat (first | go_values | go_skip | go_guarded | go_step | go_upon)
    refine (HQ.out _ (by repeat (first | exact Below.refl _ _ | assumption | refine bal ?_ _ | refine bdr ?_ | refine bdrn ?_ _ | (refine bset ?_ (by first | exact Nat.le_refl _ | (simp; done) | (simp; omega) | omega) _) | refine bstep ?_ (by assumption)))).mono ?_
    rintro e w1 ⟨rfl, hb1⟩
    obtain ⟨hc1, hf1⟩ := bcell hb1
    have hz1 := hb1.size
    try simp at hz1
    dsimp only
    have hw1 : Below w.heap.size w w1 := (by repeat (first | exact Below.refl _ _ | assumption | refine bal ?_ _ | refine bdr ?_ | refine bdrn ?_ _ | (refine bset ?_ (by first | exact Nat.le_refl _ | (simp; done) | (simp; omega) | omega) _) | refine bstep ?_ (by assumption)))
    have hwb : Below b w w1 := hw1.mono (Nat.le_of_lt hlt)
    have hP1 := pg_below HPg.out hw1
    have ho1 := oth_below b hw1
    have hbp := (hb1.block w.heap.size (by simp; omega)).trans ((RowKit.Below.heap_alloc _ _ _ (by simp)).trans (heap_alloc_new w _))
    have hbn := (hb1.block (w.heap.size + 1) (by simp)).trans (allocs_new w _ _)
    have cP := (cells_at hbp).1 0
    have cN := (cells_at hbn).1
    simp only [List.getElem?_toArray, List.getElem?_cons_zero] at cP
    have qb1 := pg_lt hP1
    have hwbd : Below b w w1.drew := hwb.trans ((drew_below w1).mono (Nat.le_of_lt qb1))
    have hod : Oth b w w1.drew := ho1.trans (oth_below b (drew_below w1))
    have qP : w.heap.size < w1.heap.size := (Array.getElem?_eq_some_iff.1 hbp).1
    have qN : w.heap.size + 1 < w1.heap.size := (Array.getElem?_eq_some_iff.1 hbn).1
    have HBP := Lib.hid hbp
    have HBN := Lib.hid hbn
    clear hbp hbn HQ HWD
    repeat (first | go_values | go_skip | go_guarded | go_step | go_upon)
    refine (prow_any HI.out HO.out [32] (by decide) 2 b _ _ A w1 P HBN.out HBP.out (by omega) (by omega) (HL.out.mono (fun y hy => hwb.block y (HP.out y hy)) (fun _ h => h)) HP.out hP1 (by have := HBK.out; omega)).mono ?_
    rintro e w2 ⟨rfl, A', h1, h2, h3, h4, h5⟩
    dsimp only
    repeat (first | go_values | go_skip | go_guarded | go_step | go_upon)
    first | go_end0 | go_ret | (refine bodyPost_ret (v := .tuple #[]) (by rfl) rfl ?_)
    exact ⟨rfl, A', h1, by omega, h3, hwb.trans h4, ho1.trans h5⟩
set_option maxRecDepth 100000 in
set_option maxHeartbeats 6400000 in
theorem expr_k11 {p : Int} {t : List UInt8} {c : BitVec 256} {a : Option Addr} {n cap : Nat} (b : Nat) (A : List UInt8) (w : World) (hp : Pg b b (Lib.byteCells A) w) (hA : A.length ≤ 99999999997000) {P : Nat → Prop} {l : List Tr} (_ : l.length = n) (IH : ∀ m ∈ l, ExprC m) (ho : ∀ m ∈ l, OkT m) (hl : RepL w P l (.slice a n cap)) (hP : ∀ x, P x → x < b) (hbk : A.length + 3000 * Tr.bulks l ≤ 99999999997000) :
    Calls Tryz.prog 69 #[.pointer (some ⟨b, 0, none⟩), .agg (trC 11 t c (.slice a n cap) p).toArray] w (PgP b A ([38] ++ rowTx [] 3 l) (3000 * Tr.bulks l + 1) w) := by
  have hlt := pg_lt hp
  have hm1 := cell_alloc_lt
  have HPg := Lib.hid hp
  have HWD := Lib.hid (fun (q : Bool) (hq : decide (8192 < A.length) = q) (w' : World) (h : Below w.heap.size w w') => wide_any b A q hq w' (pg_below hp h))
  have HI := Lib.hid IH
  have HO := Lib.hid ho
  have HL := Lib.hid hl
  have HP := Lib.hid hP
  have HBK := Lib.hid hbk
  clear IH ho hl hP hbk
  clear hp
  dsimp only [trC]
  by_cases hw : 8192 < A.length
  · have HQ := Lib.hid (HWD.out true (decide_eq_true hw))
    go_enter Tryz.func69, Tryz.ntmps69
    repeat (first | go_values | go_skip | go_guarded | go_step | go_upon)
    refine (HQ.out _ (by repeat (first | exact Below.refl _ _ | assumption | refine bal ?_ _ | refine bdr ?_ | refine bdrn ?_ _ | (refine bset ?_ (by first | exact Nat.le_refl _ | (simp; done) | (simp; omega) | omega) _) | refine bstep ?_ (by assumption)))).mono ?_
    rintro e w1 ⟨rfl, hb1⟩
    obtain ⟨hc1, hf1⟩ := bcell hb1
    have hz1 := hb1.size
    try simp at hz1
    dsimp only
    have hw1 : Below w.heap.size w w1 := (by repeat (first | exact Below.refl _ _ | assumption | refine bal ?_ _ | refine bdr ?_ | refine bdrn ?_ _ | (refine bset ?_ (by first | exact Nat.le_refl _ | (simp; done) | (simp; omega) | omega) _) | refine bstep ?_ (by assumption)))
    repeat (first | go_values | go_skip | go_guarded | go_step | go_upon)
    first | go_end0 | go_ret | (refine bodyPost_ret (v := .tuple #[]) (by rfl) rfl ?_)
    exact ⟨rfl, A, Wr.wide hw, by omega, pg_below HPg.out hw1, hw1.mono (Nat.le_of_lt hlt), oth_below b hw1⟩
  · have HQ := Lib.hid (HWD.out false (decide_eq_false hw))
    clear hw
    go_enter Tryz.func69, Tryz.ntmps69
    repeat (first | go_values | go_skip | go_guarded | go_step | go_upon)
    refine (HQ.out _ (by repeat (first | exact Below.refl _ _ | assumption | refine bal ?_ _ | refine bdr ?_ | refine bdrn ?_ _ | (refine bset ?_ (by first | exact Nat.le_refl _ | (simp; done) | (simp; omega) | omega) _) | refine bstep ?_ (by assumption)))).mono ?_
    rintro e w1 ⟨rfl, hb1⟩
    obtain ⟨hc1, hf1⟩ := bcell hb1
    have hz1 := hb1.size
    try simp at hz1
    dsimp only
    have hw1 : Below w.heap.size w w1 := (by repeat (first | exact Below.refl _ _ | assumption | refine bal ?_ _ | refine bdr ?_ | refine bdrn ?_ _ | (refine bset ?_ (by first | exact Nat.le_refl _ | (simp; done) | (simp; omega) | omega) _) | refine bstep ?_ (by assumption)))
    have hwb : Below b w w1 := hw1.mono (Nat.le_of_lt hlt)
    have hP1 := pg_below HPg.out hw1
    have ho1 := oth_below b hw1
    have hbp := (hb1.block w.heap.size (by simp; omega)).trans ((RowKit.Below.heap_alloc _ _ _ (by simp)).trans (heap_alloc_new w _))
    have hbn := (hb1.block (w.heap.size + 1) (by simp)).trans (allocs_new w _ _)
    have cP := (cells_at hbp).1 0
    have cN := (cells_at hbn).1
    simp only [List.getElem?_toArray, List.getElem?_cons_zero] at cP
    have qb1 := pg_lt hP1
    have hwbd : Below b w w1.drew := hwb.trans ((drew_below w1).mono (Nat.le_of_lt qb1))
    have hod : Oth b w w1.drew := ho1.trans (oth_below b (drew_below w1))
    have qP : w.heap.size < w1.heap.size := (Array.getElem?_eq_some_iff.1 hbp).1
    have qN : w.heap.size + 1 < w1.heap.size := (Array.getElem?_eq_some_iff.1 hbn).1
    have HBP := Lib.hid hbp
    have HBN := Lib.hid hbn
    clear hbp hbn HQ HWD
    repeat (first | go_values | go_skip | go_guarded | go_step | go_upon)
    go_region_with (go_at_call 70; refine (pg_wb b A 38 38 _ rfl (pg_below hP1 (drew_below w1)) (by omega)).mono ?_; rintro e w2 ⟨rfl, hB2, hb2, ho2⟩; try dsimp only)
    all_goals (have HBN2 := Lib.hid (oth_cell ho2 (show w1.drew.heap[w.heap.size + 1]? = _ from HBN.out) (by omega) (by decide)); have HBP2 := Lib.hid (oth_cell ho2 (show w1.drew.heap[w.heap.size]? = _ from HBP.out) (by omega) (by decide)); have hw2 : Below b w w2 := hwbd.trans hb2)
    all_goals (repeat (first | go_values | go_skip | go_guarded | go_step | go_upon))
    all_goals (refine (prow_any HI.out HO.out [] (by decide) 3 b _ _ (A ++ [38]) w2 P HBN2.out HBP2.out (by omega) (by omega) (HL.out.mono (fun y hy => hw2.block y (HP.out y hy)) (fun _ h => h)) HP.out hB2 (by have := HBK.out; rw [List.length_append, List.length_singleton]; omega)).mono ?_)
    all_goals (rintro e w3 ⟨rfl, A', h1, h2, h3, h4, h5⟩)
    all_goals (rw [List.length_append, List.length_singleton] at h2; dsimp only)
    all_goals (repeat (first | go_values | go_skip | go_guarded | go_step | go_upon))
    all_goals (first | go_end0 | go_ret | (refine bodyPost_ret (v := .tuple #[]) (by rfl) rfl ?_))
    all_goals (exact ⟨rfl, A', (Wr.put A [38]).trans h1, by omega, h3, hw2.trans h4, hod.trans (ho2.trans h5)⟩)
end Go.Proofs.YtjlcoldnhbkcgaaGreatDoor
namespace Go.Proofs.YtjlcoldnhbkcgaaGreatDoor
open Go.RowKit Go.Sort

set_option maxRecDepth 100000 in
set_option maxHeartbeats 6400000 in
theorem expr_k12 {p : Int} {t : List UInt8} {c : BitVec 256} {a : Option Addr} {n cap : Nat} (b : Nat) (A : List UInt8) (w : World) (hp : Pg b b (Lib.byteCells A) w) (hA : A.length ≤ 99999999997000) {P : Nat → Prop} {l : List Tr} (_ : l.length = n) (IH : ∀ m ∈ l, ExprC m) (ho : ∀ m ∈ l, OkT m) (hl : RepL w P l (.slice a n cap)) (hP : ∀ x, P x → x < b) (hbk : A.length + 3000 * Tr.bulks l ≤ 99999999997000) :
    Calls Tryz.prog 69 #[.pointer (some ⟨b, 0, none⟩), .agg (trC 12 t c (.slice a n cap) p).toArray] w (PgP b A ([33] ++ rowTx [] 3 l) (3000 * Tr.bulks l + 1) w) := by
  have hlt := pg_lt hp
  have hm1 := cell_alloc_lt
  have HPg := Lib.hid hp
  have HWD := Lib.hid (fun (q : Bool) (hq : decide (8192 < A.length) = q) (w' : World) (h : Below w.heap.size w w') => wide_any b A q hq w' (pg_below hp h))
  have HI := Lib.hid IH
  have HO := Lib.hid ho
  have HL := Lib.hid hl
  have HP := Lib.hid hP
  have HBK := Lib.hid hbk
  clear IH ho hl hP hbk
  clear hp
  dsimp only [trC]
  by_cases hw : 8192 < A.length
  · have HQ := Lib.hid (HWD.out true (decide_eq_true hw))
    go_enter Tryz.func69, Tryz.ntmps69
    repeat (first | go_values | go_skip | go_guarded | go_step | go_upon)
    refine (HQ.out _ (by repeat (first | exact Below.refl _ _ | assumption | refine bal ?_ _ | refine bdr ?_ | refine bdrn ?_ _ | (refine bset ?_ (by first | exact Nat.le_refl _ | (simp; done) | (simp; omega) | omega) _) | refine bstep ?_ (by assumption)))).mono ?_
    rintro e w1 ⟨rfl, hb1⟩
    obtain ⟨hc1, hf1⟩ := bcell hb1
    have hz1 := hb1.size
    try simp at hz1
    dsimp only
    have hw1 : Below w.heap.size w w1 := (by repeat (first | exact Below.refl _ _ | assumption | refine bal ?_ _ | refine bdr ?_ | refine bdrn ?_ _ | (refine bset ?_ (by first | exact Nat.le_refl _ | (simp; done) | (simp; omega) | omega) _) | refine bstep ?_ (by assumption)))
    repeat (first | go_values | go_skip | go_guarded | go_step | go_upon)
    first | go_end0 | go_ret | (refine bodyPost_ret (v := .tuple #[]) (by rfl) rfl ?_)
    exact ⟨rfl, A, Wr.wide hw, by omega, pg_below HPg.out hw1, hw1.mono (Nat.le_of_lt hlt), oth_below b hw1⟩
  · have HQ := Lib.hid (HWD.out false (decide_eq_false hw))
    clear hw
    go_enter Tryz.func69, Tryz.ntmps69
    repeat (first | go_values | go_skip | go_guarded | go_step | go_upon)
    refine (HQ.out _ (by repeat (first | exact Below.refl _ _ | assumption | refine bal ?_ _ | refine bdr ?_ | refine bdrn ?_ _ | (refine bset ?_ (by first | exact Nat.le_refl _ | (simp; done) | (simp; omega) | omega) _) | refine bstep ?_ (by assumption)))).mono ?_
    rintro e w1 ⟨rfl, hb1⟩
    obtain ⟨hc1, hf1⟩ := bcell hb1
    have hz1 := hb1.size
    try simp at hz1
    dsimp only
    have hw1 : Below w.heap.size w w1 := (by repeat (first | exact Below.refl _ _ | assumption | refine bal ?_ _ | refine bdr ?_ | refine bdrn ?_ _ | (refine bset ?_ (by first | exact Nat.le_refl _ | (simp; done) | (simp; omega) | omega) _) | refine bstep ?_ (by assumption)))
    have hwb : Below b w w1 := hw1.mono (Nat.le_of_lt hlt)
    have hP1 := pg_below HPg.out hw1
    have ho1 := oth_below b hw1
    have hbp := (hb1.block w.heap.size (by simp; omega)).trans ((RowKit.Below.heap_alloc _ _ _ (by simp)).trans (heap_alloc_new w _))
    have hbn := (hb1.block (w.heap.size + 1) (by simp)).trans (allocs_new w _ _)
    have cP := (cells_at hbp).1 0
    have cN := (cells_at hbn).1
    simp only [List.getElem?_toArray, List.getElem?_cons_zero] at cP
    have qb1 := pg_lt hP1
    have hwbd : Below b w w1.drew := hwb.trans ((drew_below w1).mono (Nat.le_of_lt qb1))
    have hod : Oth b w w1.drew := ho1.trans (oth_below b (drew_below w1))
    have qP : w.heap.size < w1.heap.size := (Array.getElem?_eq_some_iff.1 hbp).1
    have qN : w.heap.size + 1 < w1.heap.size := (Array.getElem?_eq_some_iff.1 hbn).1
    have HBP := Lib.hid hbp
    have HBN := Lib.hid hbn
    clear hbp hbn HQ HWD
    repeat (first | go_values | go_skip | go_guarded | go_step | go_upon)
    go_region_with (go_at_call 70; refine (pg_wb b A 33 33 _ rfl (pg_below hP1 (drew_below w1)) (by omega)).mono ?_; rintro e w2 ⟨rfl, hB2, hb2, ho2⟩; try dsimp only)
    all_goals (have HBN2 := Lib.hid (oth_cell ho2 (show w1.drew.heap[w.heap.size + 1]? = _ from HBN.out) (by omega) (by decide)); have HBP2 := Lib.hid (oth_cell ho2 (show w1.drew.heap[w.heap.size]? = _ from HBP.out) (by omega) (by decide)); have hw2 : Below b w w2 := hwbd.trans hb2)
    all_goals (repeat (first | go_values | go_skip | go_guarded | go_step | go_upon))
    all_goals (refine (prow_any HI.out HO.out [] (by decide) 3 b _ _ (A ++ [33]) w2 P HBN2.out HBP2.out (by omega) (by omega) (HL.out.mono (fun y hy => hw2.block y (HP.out y hy)) (fun _ h => h)) HP.out hB2 (by have := HBK.out; rw [List.length_append, List.length_singleton]; omega)).mono ?_)
    all_goals (rintro e w3 ⟨rfl, A', h1, h2, h3, h4, h5⟩)
    all_goals (rw [List.length_append, List.length_singleton] at h2; dsimp only)
    all_goals (repeat (first | go_values | go_skip | go_guarded | go_step | go_upon))
    all_goals (first | go_end0 | go_ret | (refine bodyPost_ret (v := .tuple #[]) (by rfl) rfl ?_))
    all_goals (exact ⟨rfl, A', (Wr.put A [33]).trans h1, by omega, h3, hw2.trans h4, hod.trans (ho2.trans h5)⟩)
set_option maxRecDepth 100000 in
set_option maxHeartbeats 6400000 in
theorem expr_k8 {p : Int} {t : List UInt8} {c : BitVec 256} {a : Option Addr} {n cap : Nat} (b : Nat) (A : List UInt8) (w : World) (hp : Pg b b (Lib.byteCells A) w) (_ : A.length ≤ 99999999997000) {P : Nat → Prop} {l : List Tr} (_ : l.length = n) (IH : ∀ m ∈ l, ExprC m) (ho : ∀ m ∈ l, OkT m) (hl : RepL w P l (.slice a n cap)) (hP : ∀ x, P x → x < b) (hbk : A.length + 3000 * Tr.bulks l ≤ 99999999997000) :
    Calls Tryz.prog 69 #[.pointer (some ⟨b, 0, none⟩), .agg (trC 8 t c (.slice a n cap) p).toArray] w (PgP b A (rowTx [] 4 l ++ [63]) (3000 * Tr.bulks l + 1) w) := by
  have hlt := pg_lt hp
  have hm1 := cell_alloc_lt
  have HPg := Lib.hid hp
  have HWD := Lib.hid (fun (q : Bool) (hq : decide (8192 < A.length) = q) (w' : World) (h : Below w.heap.size w w') => wide_any b A q hq w' (pg_below hp h))
  have HI := Lib.hid IH
  have HO := Lib.hid ho
  have HL := Lib.hid hl
  have HP := Lib.hid hP
  have HBK := Lib.hid hbk
  clear IH ho hl hP hbk
  clear hp
  dsimp only [trC]
  by_cases hw : 8192 < A.length
  · have HQ := Lib.hid (HWD.out true (decide_eq_true hw))
    go_enter Tryz.func69, Tryz.ntmps69
    repeat (first | go_values | go_skip | go_guarded | go_step | go_upon)
    refine (HQ.out _ (by repeat (first | exact Below.refl _ _ | assumption | refine bal ?_ _ | refine bdr ?_ | refine bdrn ?_ _ | (refine bset ?_ (by first | exact Nat.le_refl _ | (simp; done) | (simp; omega) | omega) _) | refine bstep ?_ (by assumption)))).mono ?_
    rintro e w1 ⟨rfl, hb1⟩
    obtain ⟨hc1, hf1⟩ := bcell hb1
    have hz1 := hb1.size
    try simp at hz1
    dsimp only
    have hw1 : Below w.heap.size w w1 := (by repeat (first | exact Below.refl _ _ | assumption | refine bal ?_ _ | refine bdr ?_ | refine bdrn ?_ _ | (refine bset ?_ (by first | exact Nat.le_refl _ | (simp; done) | (simp; omega) | omega) _) | refine bstep ?_ (by assumption)))
    repeat (first | go_values | go_skip | go_guarded | go_step | go_upon)
    first | go_end0 | go_ret | (refine bodyPost_ret (v := .tuple #[]) (by rfl) rfl ?_)
    exact ⟨rfl, A, Wr.wide hw, by omega, pg_below HPg.out hw1, hw1.mono (Nat.le_of_lt hlt), oth_below b hw1⟩
  · have HQ := Lib.hid (HWD.out false (decide_eq_false hw))
    clear hw
    go_enter Tryz.func69, Tryz.ntmps69
    repeat (first | go_values | go_skip | go_guarded | go_step | go_upon)
    refine (HQ.out _ (by repeat (first | exact Below.refl _ _ | assumption | refine bal ?_ _ | refine bdr ?_ | refine bdrn ?_ _ | (refine bset ?_ (by first | exact Nat.le_refl _ | (simp; done) | (simp; omega) | omega) _) | refine bstep ?_ (by assumption)))).mono ?_
    rintro e w1 ⟨rfl, hb1⟩
    obtain ⟨hc1, hf1⟩ := bcell hb1
    have hz1 := hb1.size
    try simp at hz1
    dsimp only
    have hw1 : Below w.heap.size w w1 := (by repeat (first | exact Below.refl _ _ | assumption | refine bal ?_ _ | refine bdr ?_ | refine bdrn ?_ _ | (refine bset ?_ (by first | exact Nat.le_refl _ | (simp; done) | (simp; omega) | omega) _) | refine bstep ?_ (by assumption)))
    have hwb : Below b w w1 := hw1.mono (Nat.le_of_lt hlt)
    have hP1 := pg_below HPg.out hw1
    have ho1 := oth_below b hw1
    have hbp := (hb1.block w.heap.size (by simp; omega)).trans ((RowKit.Below.heap_alloc _ _ _ (by simp)).trans (heap_alloc_new w _))
    have hbn := (hb1.block (w.heap.size + 1) (by simp)).trans (allocs_new w _ _)
    have cP := (cells_at hbp).1 0
    have cN := (cells_at hbn).1
    simp only [List.getElem?_toArray, List.getElem?_cons_zero] at cP
    have qb1 := pg_lt hP1
    have hwbd : Below b w w1.drew := hwb.trans ((drew_below w1).mono (Nat.le_of_lt qb1))
    have hod : Oth b w w1.drew := ho1.trans (oth_below b (drew_below w1))
    have qP : w.heap.size < w1.heap.size := (Array.getElem?_eq_some_iff.1 hbp).1
    have qN : w.heap.size + 1 < w1.heap.size := (Array.getElem?_eq_some_iff.1 hbn).1
    have HBP := Lib.hid hbp
    have HBN := Lib.hid hbn
    clear hbp hbn HQ HWD
    repeat (first | go_values | go_skip | go_guarded | go_step | go_upon)
    refine (prow_any HI.out HO.out [] (by decide) 4 b _ _ A w1 P HBN.out HBP.out (by omega) (by omega) (HL.out.mono (fun y hy => hwb.block y (HP.out y hy)) (fun _ h => h)) HP.out hP1 (by have := HBK.out; omega)).mono ?_
    rintro e w2 ⟨rfl, A', h1, h2, h3, h4, h5⟩
    have hbp2 := oth_cell h5 HBP.out (by omega) (by decide)
    have hbn2 := oth_cell h5 HBN.out (by omega) (by decide)
    have cP2 := (cells_at hbp2).1 0
    have cN2 := (cells_at hbn2).1
    simp only [List.getElem?_toArray, List.getElem?_cons_zero] at cP2
    have hA' : A'.length ≤ 99999999997000 := by have := HBK.out; omega
    have qb2 := pg_lt h3
    clear cP cN
    dsimp only
    repeat (first | go_values | go_skip | go_guarded | go_step | go_upon)
    go_region_with (go_at_call 70; refine (pg_wb b A' 63 63 _ rfl (pg_below h3 (drew_below w2)) (by omega)).mono ?_; rintro e w3 ⟨rfl, hB3, hb3, ho3⟩; try dsimp only)
    all_goals (first | go_end0 | go_ret | (refine bodyPost_ret (v := .tuple #[]) (by rfl) rfl ?_))
    all_goals (exact ⟨rfl, A' ++ [63], h1.trans (Wr.put A' _), by rw [List.length_append, List.length_singleton]; omega, hB3, hwb.trans (h4.trans (((drew_below w2).mono (Nat.le_of_lt qb2)).trans hb3)), ho1.trans (h5.trans ((oth_below b (drew_below w2)).trans ho3))⟩)
end Go.Proofs.YtjlcoldnhbkcgaaGreatDoor
