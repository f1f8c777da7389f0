/- The walk of lex.cutter's method literal. -/
import Derived.Test.YtlohpplpnddfaaaDoorLexE
import Derived.Test.YtlohpplpnddfaaaDoorTxtW
namespace Go.Proofs.YtlohpplpnddfaaaDoor
open Go.RowKit Go.Sort

/-- The cutter has one more token, or what is wrong. -/
def CutP (C : Nat) (S : ByteArray) (l : List Tok) (w : World) (g : Got Tok) (e : Ending) (w' : World) : Prop :=
  match g with
  | .inr (t, n) => e = .returned .nilIface ∧ CU C S n (l ++ [t]) w' ∧ Below C w w'
  | .inl er => AnsFault er w id e w' ∧ Below C w w'
theorem CutP.no {C : Nat} {S : ByteArray} {l : List Tok} {w w' : World} {g : Got Tok} {er : Nat × Nat} {e : Ending} {p : Nat} (hg : g = .inl er) (he : e = .returned (.iface 90 (.pointer (some ⟨p, 0, none⟩)))) (hp : FaultAt p er w') (hl : w.heap.size ≤ p) (h : Below C w w') :
    CutP C S l w g e w' := by
  subst hg; exact ⟨⟨p, he, hp, hl⟩, h⟩
theorem CutP.ok {C : Nat} {S : ByteArray} {l : List Tok} {w w' : World} {g : Got Tok} {e : Ending} {t : Tok} {n : Nat} (hg : g = .inr (t, n)) (he : e = .returned .nilIface) (hc : CU C S n (l ++ [t]) w') (h : Below C w w') : CutP C S l w g e w' := by
  subst hg; exact ⟨he, hc, h⟩
/-- What a literal comes to. -/
def litTok (a : Nat) (g : Got (List UInt8)) : Got Tok := match g with
  | .inl e => .inl e
  | .inr (l, n) => .inr (⟨3, l, 0, a⟩, n)
theorem lit_out {s : List UInt8} {q st f k : Nat} {l : List UInt8} (h : s.length ≤ k) : litGo s q st (f + 1) k l = .inl (3, s.length) := by rw [litGo, if_pos h]
theorem lit_end {s : List UInt8} {q st f k : Nat} {l : List UInt8} (h : k < s.length) (hq : byteAt s k = q) : litGo s q st (f + 1) k l = .inr (l, k + 1) := by rw [litGo, if_neg (by omega), if_pos hq]
theorem lit_bad {s : List UInt8} {q st f k : Nat} {l : List UInt8} {er : Nat × Nat} (h : k < s.length) (hq : byteAt s k ≠ q) (hc : lchAt s k = .inl er) : litGo s q st (f + 1) k l = .inl er := by rw [litGo, if_neg (by omega), if_neg hq, hc]
theorem lit_long {s : List UInt8} {q st f k c n : Nat} {l : List UInt8} (h : k < s.length) (hq : byteAt s k ≠ q) (hc : lchAt s k = .inr (c, n)) (hl : l.length = 255) : litGo s q st (f + 1) k l = .inl (2, st) := by
  rw [litGo, if_neg (by omega), if_neg hq, hc]; simp only; rw [if_pos hl]
theorem lit_on {s : List UInt8} {q st f k c n : Nat} {l : List UInt8} (h : k < s.length) (hq : byteAt s k ≠ q) (hc : lchAt s k = .inr (c, n)) (hl : l.length ≠ 255) : litGo s q st (f + 1) k l = litGo s q st f n (l ++ [c.toUInt8]) := by
  rw [litGo, if_neg (by omega), if_neg hq, hc]; simp only; rw [if_neg hl]
theorem add_as (C : Nat) (S : ByteArray) (a : Nat) (l : List Tok) (k : Nat) (x : List UInt8) (e : Int) (n : Nat) (w : World) (h : CU C S a l w) (hx : e = n) (hl : l.length ≤ 100000) :
    Calls Tryd.prog 65 #[.pointer (some ⟨C, 0, none⟩), .agg #[.int .i64 (k : Int), .string ⟨x.toArray⟩, .int .u64 0, .int .u64 0, .int .u64 0, .int .u64 0, .int .i64 0], .int .i64 e] w fun e w' => e = .returned (.tuple #[]) ∧ CU C S n (l ++ [⟨k, x, 0, a⟩]) w' ∧ Below C w w' := by
  have := add_any C S a l ⟨k, x, 0#256, a⟩ 0 e n w h hx rfl hl
  simp only [wd_zero, mkS] at this
  exact this
theorem wb_nat (b : Nat) (A : List UInt8) (c : Nat) (w : World) (hc : c < 256) (h : Bld b b (Lib.byteCells A) w) (hl : A.length ≤ 100000) :
    Calls Tryd.prog 57 #[.pointer (some ⟨b, 0, none⟩), .int .u8 (c : Int)] w fun e w' => e = .returned .nilIface ∧ Bld b b (Lib.byteCells (A ++ [c.toUInt8])) w' ∧ Below b w w' ∧ Oth b w w' :=
  wb_txt b A c.toUInt8 c w (by simp; omega) h hl
theorem len_bld (b : Nat) (A : List UInt8) (w : World) (h : Bld b b (Lib.byteCells A) w) : Calls Tryd.prog 110 #[.pointer (some ⟨b, 0, none⟩)] w fun e w' => e = .returned (.int .i64 (A.length : Int)) ∧ w = w' := by
  refine (Tryd.Builder_Len_f b b _ w h).mono ?_
  rintro e w' ⟨rfl, rfl⟩
  exact ⟨by rw [Lib.byteCells_length], rfl⟩
set_option maxRecDepth 100000 in
set_option maxHeartbeats 6400000 in
theorem literal_any (C : Nat) (S : ByteArray) (a : Nat) (l : List Tok) (w : World) (h : CU C S a l w) (hs : S.size ≤ 100000) (ha : a < S.size) (hll : l.length ≤ 100000) (_ : S[a].toNat = 39 ∨ S[a].toNat = 34) :
    Calls Tryd.prog 88 #[.pointer (some ⟨C, 0, none⟩)] w (CutP C S l w (litTok a (litGo (bl S) S[a].toNat a ((bl S).length + 1) (a + 1) []))) := by
  have hlen := bl_length S
  have hs2 : S.size ≤ 140737488355328 := by omega
  have HC := Lib.hid h
  have hlt := h.lt
  obtain ⟨c0, c1⟩ := h.cells
  have HB := Lib.hid (bld_below (bld_new w) (drew_below _))
  clear h
  generalize hG : litGo (bl S) S[a].toNat a ((bl S).length + 1) (a + 1) [] = G
  have HG := Lib.hid hG
  clear hG
  go_enter Tryd.func88, Tryd.ntmps88
  repeat (first | go_values | go_skip | go_guarded | go_step | go_upon)
  go_region
  repeat (first | go_values | go_skip | go_guarded | go_step | go_upon)
  go_loopw [5] (fun t wr => ∃ (f k : Nat) (acc : List UInt8), t = .int .i64 (k : Int) ∧ Bld w.heap.size w.heap.size (Lib.byteCells acc) wr ∧ Below w.heap.size w wr ∧ Hid (litGo (bl S) S[a].toNat a f k acc = G) ∧ (bl S).length < f + k ∧ acc.length ≤ 255 ∧ k ≤ S.size) (fun t _ => S.size + 1 - (intOf t).toNat)
  case atStart => exact ⟨_, a + 1, [], by go_num, HB.out, ((Below.refl _ _).alloc (Nat.le_refl _) _).drew, HG, by omega, by simp, by omega⟩
  case round =>
    obtain ⟨f, k, acc, rfl, hB, hb, hG, hf, hacc, hk⟩ := hrel
    obtain ⟨f, rfl⟩ : ∃ g, f = g + 1 := ⟨f - 1, by omega⟩
    have u := HC.out.below hb
    obtain ⟨d0, d1⟩ := u.cells
    have qB := bld_lt hB
    rcases Nat.lt_or_ge k S.size with hlk | hge
    · have hv := byteAt_ba hlk
      have h256 := UInt8.toNat_lt S[k]
      have k1 : decide (S.size ≤ k) = false := by simp; omega
      by_cases hx : S[k].toNat = S[a].toNat
      · have HX := Lib.hid (show G = .inr (acc, k + 1) by rw [← hG.out, lit_end (by omega) (by rw [hv]; exact hx)])
        have m1 : ((S[k].toNat : Int) == (S[a].toNat : Int)) = true := by simp; omega
        clear hx hv
        repeat (first | go_values | go_skip | go_guarded | go_step | go_upon)
        refine (Tryd.Builder_String_any_k w.heap.size w.heap.size acc _ hB (Nat.le_of_lt qB)).mono ?_
        rintro e w4 ⟨rfl, hB4, hb4, ho4⟩
        have u4 := HC.out.below (hb.trans hb4)
        dsimp only
        repeat (first | go_values | go_skip | go_guarded | go_step | go_upon)
        refine (add_as C S a l 3 acc _ (k + 1) _ u4 (by omega) hll).mono ?_
        rintro e w5 ⟨rfl, u5, hb5⟩
        dsimp only
        repeat (first | go_values | go_skip | go_guarded | go_step | go_upon)
        go_ret
        exact CutP.ok (by rw [HX.out]; rfl) rfl u5 (((hb.trans hb4).mono (Nat.le_of_lt hlt)).trans hb5)
      · have m1 : ((S[k].toNat : Int) == (S[a].toNat : Int)) = false := by simp; omega
        by_cases h92 : S[k].toNat = 92
        · have m2 : ((S[k].toNat : Int) == 92) = true := by simp; omega
          have hlc : lchAt (bl S) k = lescAt (bl S) (k + 1) := by rw [lchAt, hv, if_pos h92]
          cases he : lescAt (bl S) (k + 1) with
          | inl er =>
            have HX := Lib.hid (show G = .inl er by rw [← hG.out, lit_bad (by omega) (by rw [hv]; exact hx) (hlc.trans he)])
            have HE := Lib.hid he
            clear hx hv he hlc h92
            repeat (first | go_values | go_skip | go_guarded | go_step | go_upon)
            refine (escape_no C S a l k _ u hs2 (by omega) HE.out).mono ?_
            rintro e w5 ⟨⟨p, rfl, hp, hl⟩, hb5⟩
            dsimp only
            repeat (first | go_values | go_skip | go_guarded | go_step | go_upon)
            go_ret
            exact CutP.no (by rw [HX.out]; rfl) rfl hp (Nat.le_trans hb.size hl) ((hb.mono (Nat.le_of_lt hlt)).trans (hb5.mono (by have := hb.size; omega)))
          | inr q =>
            obtain ⟨c, n⟩ := q
            have bd := lescAt_bd he
            have HE := Lib.hid he
            have d3 : decide ((S[k].toNat : Int) < 32) = false := by simp; omega
            have d4 : decide ((126 : Int) < S[k].toNat) = false := by simp; omega
            by_cases h255 : acc.length = 255
            · have HX := Lib.hid (show G = .inl (2, a) by rw [← hG.out, lit_long (by omega) (by rw [hv]; exact hx) (hlc.trans he) h255])
              have d5 : ((acc.length : Int) == 255) = true := by simp; omega
              clear hx hv he hlc h92 h255
              repeat (first | go_values | go_skip | go_guarded | go_step | go_upon)
              refine (escape_ok C S a l k _ u hs2 (by omega) HE.out).mono ?_
              rintro e w5 ⟨rfl, hb5⟩
              have u5 := u.below hb5
              obtain ⟨e0, e1⟩ := u5.cells
              have hB5 := bld_below hB hb5
              have hbb := bstep hb hb5
              dsimp only
              repeat (first | go_values | go_skip | go_guarded | go_step | go_upon)
              refine (len_bld w.heap.size acc _ hB5).mono ?_
              rintro e w6 ⟨rfl, rfl⟩
              dsimp only
              repeat (first | go_values | go_skip | go_guarded | go_step | go_upon)
              refine (fault_any _ _ (2, a) _ rfl rfl).mono ?_
              rintro e w9 ⟨⟨p, rfl, hp, hl⟩, hb9⟩
              dsimp only [id]
              repeat (first | go_values | go_skip | go_guarded | go_step | go_upon)
              go_ret
              exact CutP.no (by rw [HX.out]; rfl) rfl hp (Nat.le_trans hbb.size hl) ((hbb.mono (Nat.le_of_lt hlt)).trans (hb9.mono (by have := hbb.size; omega)))
            · have HX := Lib.hid (show litGo (bl S) S[a].toNat a f n (acc ++ [c.toUInt8]) = G by rw [← hG.out, lit_on (by omega) (by rw [hv]; exact hx) (hlc.trans he) h255])
              have d5 : ((acc.length : Int) == 255) = false := by simp; omega
              clear hx hv he hlc h92
              repeat (first | go_values | go_skip | go_guarded | go_step | go_upon)
              refine (escape_ok C S a l k _ u hs2 (by omega) HE.out).mono ?_
              rintro e w5 ⟨rfl, hb5⟩
              have u5 := u.below hb5
              obtain ⟨e0, e1⟩ := u5.cells
              have hB5 := bld_below hB hb5
              have hbb := bstep hb hb5
              dsimp only
              repeat (first | go_values | go_skip | go_guarded | go_step | go_upon)
              refine (len_bld w.heap.size acc _ hB5).mono ?_
              rintro e w6 ⟨rfl, rfl⟩
              dsimp only
              repeat (first | go_values | go_skip | go_guarded | go_step | go_upon)
              refine (wb_nat w.heap.size acc c _ bd.1 hB5 (by omega)).mono ?_
              rintro e w7 ⟨rfl, hB7, hb7, ho7⟩
              dsimp only
              repeat (first | go_values | go_skip | go_guarded | go_step | go_upon)
              exact ⟨⟨f, n, acc ++ [(c).toUInt8], by first | rfl | go_num, hB7, hbb.trans hb7, HX, by omega, by simp; omega, by omega⟩, by simp [intOf]; omega⟩
        · have m2 : ((S[k].toNat : Int) == 92) = false := by simp; omega
          by_cases hbad : S[k].toNat < 32 ∨ 126 < S[k].toNat
          · have HX := Lib.hid (show G = .inl (4, k) by rw [← hG.out, lit_bad (by omega) (by rw [hv]; exact hx) (by rw [lchAt, hv, if_neg h92, if_pos hbad])])
            have hw := wrongAt_bin hlk
            have HW := Lib.hid hw
            have hdd : (decide ((S[k].toNat : Int) < 32) = true) ∨ (decide ((S[k].toNat : Int) < 32) = false ∧ decide ((126 : Int) < S[k].toNat) = true) := by
              simp only [decide_eq_true_eq, decide_eq_false_iff_not]; omega
            clear hx hv h92 hbad hw
            rcases hdd with d3 | ⟨d3, d4⟩
            all_goals
              repeat (first | go_values | go_skip | go_guarded | go_step | go_upon)
              refine (lwrong_any C S a l _ (k) _ u (by omega) hs2).mono ?_
              rintro e w9 ⟨⟨p, rfl, hp, hl⟩, hb9⟩
              dsimp only [id]
              repeat (first | go_values | go_skip | go_guarded | go_step | go_upon)
              go_ret
              rw [HW.out] at hp
              exact CutP.no (by rw [HX.out]; rfl) rfl hp (Nat.le_trans hb.size hl) ((hb.mono (Nat.le_of_lt hlt)).trans (hb9.mono (by have := hb.size; omega)))
          · have hlc : lchAt (bl S) k = .inr (S[k].toNat, k + 1) := by rw [lchAt, hv, if_neg h92, if_neg hbad]
            have d3 : decide ((S[k].toNat : Int) < 32) = false := by simp; omega
            have d4 : decide ((126 : Int) < S[k].toNat) = false := by simp; omega
            by_cases h255 : acc.length = 255
            · have HX := Lib.hid (show G = .inl (2, a) by rw [← hG.out, lit_long (by omega) (by rw [hv]; exact hx) hlc h255])
              have d5 : ((acc.length : Int) == 255) = true := by simp; omega
              clear hx hv hlc h92 h255 hbad
              repeat (first | go_values | go_skip | go_guarded | go_step | go_upon)
              refine (len_bld w.heap.size acc _ hB).mono ?_
              rintro e w6 ⟨rfl, rfl⟩
              dsimp only
              repeat (first | go_values | go_skip | go_guarded | go_step | go_upon)
              refine (fault_any _ _ (2, a) _ rfl rfl).mono ?_
              rintro e w9 ⟨⟨p, rfl, hp, hl⟩, hb9⟩
              dsimp only [id]
              repeat (first | go_values | go_skip | go_guarded | go_step | go_upon)
              go_ret
              exact CutP.no (by rw [HX.out]; rfl) rfl hp (Nat.le_trans hb.size hl) ((hb.mono (Nat.le_of_lt hlt)).trans (hb9.mono (by have := hb.size; omega)))
            · have HX := Lib.hid (show litGo (bl S) S[a].toNat a f (k + 1) (acc ++ [S[k].toNat.toUInt8]) = G by rw [← hG.out, lit_on (by omega) (by rw [hv]; exact hx) hlc h255])
              have d5 : ((acc.length : Int) == 255) = false := by simp; omega
              clear hx hv hlc h92 hbad
              repeat (first | go_values | go_skip | go_guarded | go_step | go_upon)
              refine (len_bld w.heap.size acc _ hB).mono ?_
              rintro e w6 ⟨rfl, rfl⟩
              dsimp only
              repeat (first | go_values | go_skip | go_guarded | go_step | go_upon)
              refine (wb_nat w.heap.size acc S[k].toNat _ h256 hB (by omega)).mono ?_
              rintro e w7 ⟨rfl, hB7, hb7, ho7⟩
              dsimp only
              repeat (first | go_values | go_skip | go_guarded | go_step | go_upon)
              exact ⟨⟨f, k + 1, acc ++ [(S[k].toNat).toUInt8], by first | rfl | go_num, hB7, hb.trans hb7, HX, by omega, by simp; omega, by omega⟩, by simp [intOf]; omega⟩
    · have HX := Lib.hid (show G = .inl (3, S.size) by rw [← hG.out, lit_out (by omega), hlen])
      have HW := Lib.hid (wrongAt_bout hge)
      have k1 : decide (S.size ≤ k) = true := by simpa using hge
      repeat (first | go_values | go_skip | go_guarded | go_step | go_upon)
      refine (lwrong_any C S a l _ (k) _ u (by omega) hs2).mono ?_
      rintro e w9 ⟨⟨p, rfl, hp, hl⟩, hb9⟩
      dsimp only [id]
      repeat (first | go_values | go_skip | go_guarded | go_step | go_upon)
      go_ret
      rw [HW.out] at hp
      exact CutP.no (by rw [HX.out]; rfl) rfl hp (Nat.le_trans hb.size hl) ((hb.mono (Nat.le_of_lt hlt)).trans (hb9.mono (by have := hb.size; omega)))
end Go.Proofs.YtlohpplpnddfaaaDoor
