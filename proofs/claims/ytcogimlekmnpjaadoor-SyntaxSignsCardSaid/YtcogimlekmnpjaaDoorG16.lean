/- The walk of lex.Tokens. | The walk of the lexer laws' small case. | lex.Tokens of any source: the tokens, or what is wrong and where; an error's number and place. | Two tokens compared: the same ones. | Two rows of tokens compared (the document's Same): the same ones. | The reader of tokens: what it holds; its methods stop, wrong, next, must, sign. -/
import Derived.Test.YtcogimlekmnpjaaDoorG15
import Derived.Test.YtcogimlekmnpjaaDoorG13
import Derived.Test.YtcogimlekmnpjaaDoorG6
import Derived.Test.YtcogimlekmnpjaaDoorG2
import Derived.Laws.StructEq
import Derived.Defers
import Derived.Recover
namespace Go.Proofs.YtcogimlekmnpjaaDoor
open Go.RowKit Go.Sort

/-- The tokens of a source, or what is wrong. -/
def ToksP (w : World) (g : (Nat × Nat) ⊕ List Tok) (e : Ending) (w' : World) : Prop :=
  match g with
  | .inr l => ∃ v, e = .returned (.tuple #[v, .nilIface]) ∧ w'.ownsRow w.heap.size 49 7 v l.length (tokCells l) ∧ Below w.heap.size w w'
  | .inl er => AnsFault er w (fun x => .tuple #[.slice none 0 0, x]) e w' ∧ Below w.heap.size w w'
theorem toks_end {s : List UInt8} {f a : Nat} {l : List Tok} (h : s.length ≤ a) : toksGo s (f + 1) a l = .inr (l ++ [⟨6, [], 0, s.length⟩]) := by rw [toksGo, if_pos h]
theorem toks_note {s : List UInt8} {f a : Nat} {l : List Tok} (h : a < s.length) (hb : byteAt s a = 35) : toksGo s (f + 1) a l = toksGo s f (noteEnd s a) l := by rw [toksGo, if_neg (by omega), if_pos hb]
theorem toks_blank {s : List UInt8} {f a : Nat} {l : List Tok} (h : a < s.length) (hb : byteAt s a ≠ 35) (hk : isBlank (byteAt s a) = true) : toksGo s (f + 1) a l = toksGo s f (a + 1) l := by rw [toksGo, if_neg (by omega), if_neg hb, if_pos hk]
theorem toks_bad {s : List UInt8} {f a : Nat} {l : List Tok} {er : Nat × Nat} (h : a < s.length) (hb : byteAt s a ≠ 35) (hk : isBlank (byteAt s a) = false) (ht : tokAt s a = .inl er) : toksGo s (f + 1) a l = .inl er := by
  rw [toksGo, if_neg (by omega), if_neg hb, hk, if_neg (by decide), ht]
theorem toks_on {s : List UInt8} {f a n : Nat} {l : List Tok} {t : Tok} (h : a < s.length) (hb : byteAt s a ≠ 35) (hk : isBlank (byteAt s a) = false) (ht : tokAt s a = .inr (t, n)) : toksGo s (f + 1) a l = toksGo s f n (l ++ [t]) := by
  rw [toksGo, if_neg (by omega), if_neg hb, hk, if_neg (by decide), ht]
theorem cu_new (S : ByteArray) (w : World) : CU w.heap.size S 0 [] (w.alloc (.cells #[.string S, .int .i64 0, .slice none 0 0] 57)) :=
  ⟨_, heap_alloc_new _ _, World.ownsRow_nil _ _ _ _⟩
theorem token_ok (C : Nat) (S : ByteArray) (a : Nat) (l : List Tok) (w : World) (hg : Laid w) (h : CU C S a l w) (hs : S.size ≤ 100000) (ha : a < S.size) (hll : l.length ≤ 100000) {t : Tok} {n : Nat} (ht : tokAt (bl S) a = .inr (t, n)) :
    Calls Tryd.prog 14 #[.pointer (some ⟨C, 0, none⟩)] w (fun e w' => e = .returned .nilIface ∧ CU C S n (l ++ [t]) w' ∧ Below C w w') := by
  have := token_any C S a l w hg h hs ha hll
  rw [ht] at this
  exact this
theorem token_no (C : Nat) (S : ByteArray) (a : Nat) (l : List Tok) (w : World) (hg : Laid w) (h : CU C S a l w) (hs : S.size ≤ 100000) (ha : a < S.size) (hll : l.length ≤ 100000) {er : Nat × Nat} (ht : tokAt (bl S) a = .inl er) :
    Calls Tryd.prog 14 #[.pointer (some ⟨C, 0, none⟩)] w (fun e w' => AnsFault er w id e w' ∧ Below C w w') := by
  have := token_any C S a l w hg h hs ha hll
  rw [ht] at this
  exact this
theorem CU.set1 {C : Nat} {S : ByteArray} {a n : Nat} {l : List Tok} {w : World} (h : CU C S a l w) : CU C S n l (w.setCell ⟨C, 1, none⟩ (.int .i64 (n : Int))) := by
  obtain ⟨v, h1, h2⟩ := h
  refine ⟨v, heap_setCell_same _ C 1 _ _ _ h1, h2.kept (gsetk w ⟨C, 1, none⟩ (.int .i64 (n : Int))) ?_⟩
  cases hb : v.ownBlock with
  | none => left; rfl
  | some g => right; have := (h2.lt g hb).1; simp; omega
theorem CU.cells2 {C : Nat} {S : ByteArray} {a : Nat} {l : List Tok} {w : World} (h : CU C S a l w) : ∀ j, w.frozen? ⟨C, j, none⟩ = false := by
  obtain ⟨v, h1, _⟩ := h
  exact (cells_at h1).2.1
set_option maxRecDepth 100000 in
set_option maxHeartbeats 6400000 in
theorem tokens_any (S : ByteArray) (w : World) (hg : Laid w) (hs : S.size ≤ 8192) : Calls Tryd.prog 7 #[.string S] w (ToksP w (toks (bl S))) := by
  have hlen := bl_length S
  have HL := Lib.hid hg
  have HC := Lib.hid (cu_new S w)
  have d1 : decide ((8192 : Int) < S.size) = false := by simp; omega
  have hs2 : S.size ≤ 100000 := by omega
  clear hg
  have HG := Lib.hid (show toksGo (bl S) (2 * (bl S).length + 2) 0 [] = toks (bl S) from rfl)
  generalize toks (bl S) = G at *
  go_enter Tryd.func7, Tryd.ntmps7
  repeat (first | go_values | go_skip | go_guarded | go_step | go_upon)
  go_loopw [5] (fun _ wr => ∃ (f a : Nat) (l : List Tok), CU w.heap.size S a l wr ∧ Below w.heap.size w wr ∧ Hid (toksGo (bl S) f a l = G) ∧ (bl S).length < f + a ∧ a ≤ S.size ∧ l.length ≤ a) (fun _ wr => S.size - (intOf ((wr.cell? ⟨w.heap.size, 1, none⟩).getD undef)).toNat)
  case atStart => exact ⟨_, 0, [], HC.out, (Below.refl _ _).alloc (Nat.le_refl _) _, HG, by omega, by omega, by simp⟩
  case round =>
    obtain ⟨f, a, l, u, hb, hG, hf, ha, hla⟩ := hrel
    obtain ⟨f, rfl⟩ : ∃ g, f = g + 1 := ⟨f - 1, by omega⟩
    obtain ⟨c0, c1⟩ := u.cells
    have fz := u.cells2
    have HU := Lib.hid u
    rcases Nat.lt_or_ge a S.size with hlt | hge
    · have k1 : decide (a < S.size) = true := by simpa using hlt
      have hv := byteAt_ba hlt
      have h256 := UInt8.toNat_lt S[a]
      by_cases h35 : S[a].toNat = 35
      · have HX := Lib.hid (show toksGo (bl S) f (noteEnd (bl S) a) l = G by rw [← hG.out, toks_note (by omega) (by rw [hv]; exact h35)])
        have hne := noteEnd_bd (s := bl S) (a := a) (by omega) (by rw [hv, h35]; decide)
        have m35 : ((S[a].toNat : Int) == 35) = true := by simp; omega
        have hkb := kbl_extract S a ha
        clear u hv h35
        rcases Int.lt_or_le (Lib.indexByte ((bl S).drop a) 10) 0 with hneg | hpos
        · have hi : Lib.indexByte ((bl S).drop a) 10 = -1 := by have := Lib.indexByte_ge ((bl S).drop a) 10; omega
          have hE : noteEnd (bl S) a = S.size := by rw [noteEnd, if_neg (by omega), hlen]
          have HI := Lib.hid (fun w' => idx_any (S.extract a S.size) 10 (-1) w' (by rw [← hi, ← hkb]; rfl))
          rw [hE] at HX hne
          clear hneg hi hE hkb
          repeat (first | go_values | go_skip | go_guarded | go_step | go_upon)
          refine (HI.out _).mono ?_
          rintro e w1 ⟨rfl, hb1⟩
          have u1 := HU.out.below hb1
          obtain ⟨e0, e1⟩ := u1.cells
          have fz1 := u1.cells2
          dsimp only
          repeat (first | go_values | go_skip | go_guarded | go_step | go_upon)
          have u2 := CU.set1 (n := S.size) u1
          refine ⟨⟨f, S.size, l, u2, (bstep hb hb1).setCell (p := ⟨w.heap.size, 1, none⟩) (Nat.le_refl _) _, HX, by omega, by omega, by omega⟩, ?_⟩
          rw [u2.cells.2, HU.out.cells.2]
          simp [intOf]
          omega
        · obtain ⟨j, hj⟩ := Int.eq_ofNat_of_zero_le hpos
          have hE : noteEnd (bl S) a = a + j := by rw [noteEnd, if_pos hpos, hj]; rfl
          have HI := Lib.hid (fun w' => idx_any (S.extract a S.size) 10 (j : Int) w' (by rw [← hj, ← hkb]; rfl))
          rw [hE] at HX hne
          clear hpos hj hE hkb
          repeat (first | go_values | go_skip | go_guarded | go_step | go_upon)
          refine (HI.out _).mono ?_
          rintro e w1 ⟨rfl, hb1⟩
          have u1 := HU.out.below hb1
          obtain ⟨e0, e1⟩ := u1.cells
          have fz1 := u1.cells2
          dsimp only
          repeat (first | go_values | go_skip | go_guarded | go_step | go_upon)
          have u2 := CU.set1 (n := a + j) u1
          refine ⟨⟨f, a + j, l, u2, (bstep hb hb1).setCell (p := ⟨w.heap.size, 1, none⟩) (Nat.le_refl _) _, HX, by omega, by omega, by omega⟩, ?_⟩
          rw [show ((a : Int) + (j : Int)) = ((a + j : Nat) : Int) by omega, u2.cells.2, HU.out.cells.2]
          simp [intOf]
          omega
      · have m35 : ((S[a].toNat : Int) == 35) = false := by simp; omega
        have h35' : byteAt (bl S) a ≠ 35 := by rw [hv]; exact h35
        cases hk : isBlank S[a].toNat
        · have hk' : isBlank (byteAt (bl S) a) = false := by rw [hv]; exact hk
          have hkk : S[a].toNat ≠ 9 ∧ S[a].toNat ≠ 10 ∧ S[a].toNat ≠ 13 ∧ S[a].toNat ≠ 32 := by
            unfold isBlank at hk; simp at hk; omega
          obtain ⟨q9, q10, q13, q32⟩ := hkk
          have m9 : ((S[a].toNat : Int) == 9) = false := by simp; omega
          have m10 : ((S[a].toNat : Int) == 10) = false := by simp; omega
          have m13 : ((S[a].toNat : Int) == 13) = false := by simp; omega
          have m32 : ((S[a].toNat : Int) == 32) = false := by simp; omega
          cases ht : tokAt (bl S) a with
          | inl er =>
            have HX := Lib.hid (show G = .inl er by rw [← hG.out, toks_bad (by omega) h35' hk' ht])
            have HT := Lib.hid ht
            clear u hv h35 h35' hk hk' q9 q10 q13 q32 ht
            repeat (first | go_values | go_skip | go_guarded | go_step | go_upon)
            refine (token_no w.heap.size S a l _ (HL.out.below hb HL.out.pos) HU.out hs2 hlt (by omega) HT.out).mono ?_
            rintro e w1 ⟨⟨p, rfl, hp, hl⟩, hb1⟩
            dsimp only [id]
            repeat (first | go_values | go_skip | go_guarded | go_step | go_upon)
            go_ret2
            rw [HX.out]
            exact ⟨⟨p, rfl, hp, Nat.le_trans hb.size hl⟩, hb.trans hb1⟩
          | inr q =>
            obtain ⟨t, n⟩ := q
            have bd := tokAt_bd (by omega) ht
            have HX := Lib.hid (show toksGo (bl S) f n (l ++ [t]) = G by rw [← hG.out, toks_on (by omega) h35' hk' ht])
            have HT := Lib.hid ht
            clear u hv h35 h35' hk hk' q9 q10 q13 q32 ht
            repeat (first | go_values | go_skip | go_guarded | go_step | go_upon)
            refine (token_ok w.heap.size S a l _ (HL.out.below hb HL.out.pos) HU.out hs2 hlt (by omega) HT.out).mono ?_
            rintro e w1 ⟨rfl, u1, hb1⟩
            dsimp only
            repeat (first | go_values | go_skip | go_guarded | go_step | go_upon)
            refine ⟨⟨f, n, l ++ [t], u1, hb.trans hb1, HX, by omega, by omega, by simp; omega⟩, ?_⟩
            rw [u1.cells.2, HU.out.cells.2]
            simp [intOf]
            omega
        · have hk' : isBlank (byteAt (bl S) a) = true := by rw [hv]; exact hk
          have HX := Lib.hid (show toksGo (bl S) f (a + 1) l = G by rw [← hG.out, toks_blank (by omega) h35' hk'])
          have hkk : S[a].toNat = 9 ∨ S[a].toNat = 10 ∨ S[a].toNat = 13 ∨ S[a].toNat = 32 := by
            unfold isBlank at hk; simp at hk; omega
          have hmm : (((S[a].toNat : Int) == 9) = true) ∨ (((S[a].toNat : Int) == 9) = false ∧ ((S[a].toNat : Int) == 10) = true) ∨ (((S[a].toNat : Int) == 9) = false ∧ ((S[a].toNat : Int) == 10) = false ∧ ((S[a].toNat : Int) == 13) = true) ∨ (((S[a].toNat : Int) == 9) = false ∧ ((S[a].toNat : Int) == 10) = false ∧ ((S[a].toNat : Int) == 13) = false ∧ ((S[a].toNat : Int) == 32) = true) := by
            simp only [beq_iff_eq, beq_eq_false_iff_ne]; omega
          clear u hv h35 h35' hk hk' hkk
          rcases hmm with m9 | ⟨m9, m10⟩ | ⟨m9, m10, m13⟩ | ⟨m9, m10, m13, m32⟩
          all_goals
            repeat (first | go_values | go_skip | go_guarded | go_step | go_upon)
            have u2 := CU.set1 (n := a + 1) HU.out
            refine ⟨⟨f, a + 1, l, u2, hb.setCell (p := ⟨w.heap.size, 1, none⟩) (Nat.le_refl _) _, HX, by omega, by omega, by omega⟩, ?_⟩
            rw [show ((a : Int) + 1) = ((a + 1 : Nat) : Int) by omega, u2.cells.2, HU.out.cells.2]
            simp [intOf]
            omega
    · obtain rfl : a = S.size := by omega
      have HX := Lib.hid (show G = .inr (l ++ [⟨6, [], 0, S.size⟩]) by rw [← hG.out, toks_end (by omega), hlen])
      clear u
      repeat (first | go_values | go_skip | go_guarded | go_step | go_upon)
      refine (add_as w.heap.size S S.size l 6 [] _ S.size _ HU.out (by omega) (by omega)).mono ?_
      rintro e w1 ⟨rfl, u1, hb1⟩
      obtain ⟨v, hv, hown⟩ := u1
      obtain ⟨cD, fD, zD⟩ := cells_at hv
      dsimp only
      repeat (first | go_values | go_skip | go_guarded | go_step | go_upon)
      go_ret2
      rw [HX.out]
      exact ⟨v, rfl, hown.mono (Nat.le_succ _), hb.trans hb1⟩
end Go.Proofs.YtcogimlekmnpjaaDoor
namespace Go.Proofs.YtcogimlekmnpjaaDoor
open Go.RowKit Go.Sort

/-- The small case: a <- 'x'. -/
def smallL : List UInt8 := [97, 32, 60, 45, 32, 39, 120, 39]
theorem small_toks : toks smallL = .inr [⟨1, [97], 0, 0⟩, ⟨2, [], 0, 2⟩, ⟨3, [120], 0, 5⟩, ⟨6, [], 0, 8⟩] := by
  unfold toks
  rfl
theorem tokens_ok (S : ByteArray) (w : World) (hg : Laid w) (hs : S.size ≤ 8192) {l : List Tok} (h : toks (bl S) = .inr l) :
    Calls Tryd.prog 7 #[.string S] w (fun e w' => ∃ v, e = .returned (.tuple #[v, .nilIface]) ∧ w'.ownsRow w.heap.size 49 7 v l.length (tokCells l) ∧ Below w.heap.size w w') := by
  have := tokens_any S w hg hs
  rw [h] at this
  exact this
theorem tokens_no (S : ByteArray) (w : World) (hg : Laid w) (hs : S.size ≤ 8192) {er : Nat × Nat} (h : toks (bl S) = .inl er) :
    Calls Tryd.prog 7 #[.string S] w (fun e w' => AnsFault er w (fun x => .tuple #[.slice none 0 0, x]) e w' ∧ Below w.heap.size w w') := by
  have := tokens_any S w hg hs
  rw [h] at this
  exact this
theorem nbl_inj {A B : ByteArray} (h : bl A = bl B) : A = B := by
  apply ByteArray.ext
  exact Array.toList_inj.1 h
end Go.Proofs.YtcogimlekmnpjaaDoor
namespace Go.Proofs.YtcogimlekmnpjaaDoor
open Go.RowKit Go.Sort

/-- A fault at a place that may lie below 0. -/
def FaultI (p : Nat) (c x : Int) (w : World) : Prop := w.heap[p]? = some (.cells #[.int .i64 c, .int .i64 x] 62 (0, 0))
/-- It answers such an error, of its own. -/
def AnsFaultI (c x : Int) (w : World) (v : Value → Value) (ev : Ending) (w' : World) : Prop := ∃ p, ev = .returned (v (.iface 44 (.pointer (some ⟨p, 0, none⟩)))) ∧ FaultI p c x w' ∧ w.heap.size ≤ p
theorem faultI_of {p : Nat} {er : Nat × Nat} {w : World} (h : FaultAt p er w) : FaultI p er.1 er.2 w := h
theorem FaultI.below {p : Nat} {c x : Int} {w w' : World} (h : FaultI p c x w) (hb : Below w.heap.size w w') : FaultI p c x w' := (hb.block _ (Array.getElem?_eq_some_iff.1 h).1).trans h
theorem FaultI.lt {p : Nat} {c x : Int} {w : World} (h : FaultI p c x w) : p < w.heap.size := (Array.getElem?_eq_some_iff.1 h).1
set_option maxHeartbeats 400000 in
theorem faultI_any (c x : Int) (w : World) :
    Calls Tryd.prog 12 #[.int .i64 c, .int .i64 x] w fun e w' => AnsFaultI c x w id e w' ∧ Below w.heap.size w w' := by
  go_enter Tryd.func12, Tryd.ntmps12
  repeat (first | go_values | go_skip | go_guarded | go_step | go_upon)
  go_ret
  exact ⟨⟨_, rfl, heap_alloc_new _ _, Nat.le_refl _⟩, (by repeat (first | exact Below.refl _ _ | assumption | refine bal ?_ _ | refine bdr ?_ | refine bdrn ?_ _ | (refine bset ?_ (by first | exact Nat.le_refl _ | (simp; done) | (simp; omega) | omega) _) | refine bstep ?_ (by assumption)))⟩
set_option maxRecDepth 100000 in
set_option maxHeartbeats 1600000 in
theorem tokens_long (S : ByteArray) (w : World) (h8 : 8192 < S.size) (hs : S.size ≤ 140737488355328) :
    Calls Tryd.prog 7 #[.string S] w (fun e w' => AnsFaultI 2 (-1) w (fun x => .tuple #[.slice none 0 0, x]) e w' ∧ Below w.heap.size w w') := by
  have d1 : decide ((8192 : Int) < S.size) = true := by simp; omega
  go_enter Tryd.func7, Tryd.ntmps7
  repeat (first | go_values | go_skip | go_guarded | go_step | go_upon)
  refine (faultI_any _ _ _).mono ?_
  rintro e w1 ⟨⟨p, rfl, hp, hl⟩, hb1⟩
  dsimp only [id]
  repeat (first | go_values | go_skip | go_guarded | go_step | go_upon)
  go_ret2
  exact ⟨⟨p, rfl, hp, hl⟩, hb1⟩
/-- The tokens of any source, or what is wrong, and where. -/
def lexed (s : List UInt8) : (Nat × Int) ⊕ List Tok :=
  if 8192 < s.length then .inl (2, -1) else match toks s with
    | .inl er => .inl (er.1, (er.2 : Int))
    | .inr l => .inr l
theorem lexed_inr {s : List UInt8} {l : List Tok} (h : lexed s = .inr l) : s.length ≤ 8192 ∧ toks s = .inr l := by
  unfold lexed at h
  split at h
  · cases h
  · split at h
    · cases h
    · next e => exact ⟨by omega, by rw [e, Sum.inr.inj h]⟩
theorem lexed_toks {s : List UInt8} {l : List Tok} (h8 : s.length ≤ 8192) (h : toks s = .inr l) : lexed s = .inr l := by
  rw [lexed, if_neg (by omega), h]
theorem lexed_bad {s : List UInt8} {er : Nat × Nat} (h8 : s.length ≤ 8192) (h : toks s = .inl er) : lexed s = .inl (er.1, (er.2 : Int)) := by
  rw [lexed, if_neg (by omega), h]
theorem lexed_big {s : List UInt8} (h8 : 8192 < s.length) : lexed s = .inl (2, -1) := by
  rw [lexed, if_pos h8]
theorem lexed_ok (S : ByteArray) (w : World) (hg : Laid w) {l : List Tok} (h : lexed (bl S) = .inr l) :
    Calls Tryd.prog 7 #[.string S] w (fun e w' => ∃ v, e = .returned (.tuple #[v, .nilIface]) ∧ w'.ownsRow w.heap.size 49 7 v l.length (tokCells l) ∧ Below w.heap.size w w') := by
  obtain ⟨h1, h2⟩ := lexed_inr h
  exact tokens_ok S w hg (by rw [← bl_length]; exact h1) h2
theorem lexed_no (S : ByteArray) (w : World) (hg : Laid w) (hs : S.size ≤ 140737488355328) {er : Nat × Int} (h : lexed (bl S) = .inl er) :
    Calls Tryd.prog 7 #[.string S] w (fun e w' => AnsFaultI er.1 er.2 w (fun x => .tuple #[.slice none 0 0, x]) e w' ∧ Below w.heap.size w w') := by
  have hlen := bl_length S
  unfold lexed at h
  split at h
  · next h8 =>
    have e := Sum.inl.inj h
    subst e
    exact tokens_long S w (by omega) hs
  · next h8 =>
    split at h
    · next er2 ht =>
      have e := Sum.inl.inj h
      subst e
      exact tokens_no S w hg (by omega) ht
    · cases h
end Go.Proofs.YtcogimlekmnpjaaDoor
namespace Go.Proofs.YtcogimlekmnpjaaDoor
open Go.RowKit Go.Sort

theorem guard_tok : Tryd.prog.eqGuardType Tryd.prog.depth 49 = false := by kernel_rfl
theorem equal_clD (w : World) (a0 a1 a2 a3 b0 b1 b2 b3 : Int) :
    (Op.equalIn 9999 33 (.agg #[.int .u64 a0, .int .u64 a1, .int .u64 a2, .int .u64 a3]) (.agg #[.int .u64 b0, .int .u64 b1, .int .u64 b2, .int .u64 b3])).run Tryd.prog w = .ok (a0 == b0 && (a1 == b1 && (a2 == b2 && a3 == b3))) w := by
  have e := fun (x y : Int) (w : World) => run_equalIn_int (P := Tryd.prog) w 9997 31 .u64 .u64 x y Tryd.underlying31
  rw [show 9999 = 9998 + 1 from rfl]
  unfold Op.equalIn
  simp only [Sem.run_bind, run_underlying Tryd.underlying33, Result.andThen_ok, size_word]
  simp [List.range', part, Sem.run_bind, e]
  by_cases h0 : a0 = b0 <;> by_cases h1 : a1 = b1 <;> by_cases h2 : a2 = b2 <;> by_cases h3 : a3 = b3 <;> simp [h0, h1, h2, h3]
theorem equal_tok (w : World) (a p : Int) (x : ByteArray) (c0 c1 c2 c3 : Int) : (Op.equalIn 10000 49 (.agg #[.int .i64 a, .string x, .int .u64 c0, .int .u64 c1, .int .u64 c2, .int .u64 c3, .int .i64 p]) (.agg #[.int .i64 a, .string x, .int .u64 c0, .int .u64 c1, .int .u64 c2, .int .u64 c3, .int .i64 p])).run Tryd.prog w = .ok true w := by
  have e1 := fun (x y : Int) (w : World) => run_equalIn_int (P := Tryd.prog) w 9998 3 .i64 .i64 x y Tryd.underlying3
  have e2 := fun (x y : ByteArray) (w : World) => run_equalIn_string (P := Tryd.prog) w 9998 9 x y Tryd.underlying9
  rw [show 10000 = 9998 + 1 + 1 from rfl, run_equalIn_struct (P := Tryd.prog) w _ 49 _ _ (by kernel_rfl) (by kernel_rfl)]
  simp only [Program.fieldsOf, Tryd.underlying49]
  simp only [Nat.reduceAdd] at e1 e2
  simp [Op.eqFields, part, Sem.run_bind, e1, e2, equal_clD]
end Go.Proofs.YtcogimlekmnpjaaDoor
namespace Go.Proofs.YtcogimlekmnpjaaDoor
open Go.RowKit Go.Sort

theorem tokCells_len (l : List Tok) : (tokCells l).length = l.length * 7 := by
  induction l with
  | nil => rfl
  | cons t l ih => rw [tokCells, List.length_append, ih, List.length_cons]; simp [tokC]; omega
theorem tokCells_get {l : List Tok} {k : Nat} {t : Tok} (h : l[k]? = some t) (j : Nat) (hj : j < 7) : (tokCells l)[k * 7 + j]? = (tokC t)[j]? := by
  induction l generalizing k with
  | nil => simp at h
  | cons u l ih =>
    cases k with
    | zero =>
      simp at h
      subst h
      rw [tokCells, Nat.zero_mul, Nat.zero_add, List.getElem?_append_left (by simp [tokC]; omega)]
    | succ k =>
      simp at h
      rw [tokCells, List.getElem?_append_right (by simp [tokC]; omega), ← ih h]
      congr 1
      simp [tokC]
      omega
/-- The cells of a token in a row. -/
theorem tok_at {w : World} {B g cap : Nat} {l : List Tok} {n : Nat} (h : w.ownsRow B 49 7 (.slice (some ⟨g, 0, none⟩) n cap) n (tokCells l)) (hn : l.length = n) {k : Nat} {t : Tok} (hk : l[k]? = some t) :
    w.cell? ⟨g, k * 7, none⟩ = some (.int .i64 (t.kind : Int)) ∧ w.cell? ⟨g, k * 7 + 1, none⟩ = some (.string (mkS t.text)) ∧ w.cell? ⟨g, k * 7 + 2, none⟩ = some (.int .u64 (wd t.cls 0)) ∧ w.cell? ⟨g, k * 7 + 3, none⟩ = some (.int .u64 (wd t.cls 1)) ∧ w.cell? ⟨g, k * 7 + 4, none⟩ = some (.int .u64 (wd t.cls 2)) ∧ w.cell? ⟨g, k * 7 + 5, none⟩ = some (.int .u64 (wd t.cls 3)) ∧ w.cell? ⟨g, k * 7 + 6, none⟩ = some (.int .i64 (t.pos : Int)) := by
  have hlt : k < l.length := (List.getElem?_eq_some_iff.1 hk).1
  have key : ∀ j, j < 7 → w.cell? ⟨g, k * 7 + j, none⟩ = (tokC t)[j]? := fun j hj => by rw [h.cellAt _ (by omega), tokCells_get hk j hj]
  exact ⟨key 0 (by decide), key 1 (by decide), key 2 (by decide), key 3 (by decide), key 4 (by decide), key 5 (by decide), key 6 (by decide)⟩
end Go.Proofs.YtcogimlekmnpjaaDoor
namespace Go.Proofs.YtcogimlekmnpjaaDoor
open Go.RowKit Go.Sort

/-- From a place on stand these tokens. -/
def TR (g o : Nat) (rs : List Tok) (w : World) : Prop := ∀ j u, (tokCells rs)[j]? = some u → w.cell? ⟨g, o + j, none⟩ = some u
/-- A reader at R: the tokens that are left (in the block g, from o on), the depth. -/
structure SR (R g o c d : Nat) (rs : List Tok) (w : World) : Prop where
  here : w.heap[R]? = some (.cells #[.slice (some ⟨g, o, none⟩) rs.length c, .int .i64 (d : Int)] 47 (0, 0))
  toks : TR g o rs w
  lt : g < w.heap.size
  ne : g ≠ R
  cap : rs.length ≤ c
theorem SR.ltR {R g o c d : Nat} {rs : List Tok} {w : World} (h : SR R g o c d rs w) : R < w.heap.size := (Array.getElem?_eq_some_iff.1 h.here).1
theorem TR.keep {g o : Nat} {rs : List Tok} {w w' : World} (h : TR g o rs w) (hb : w'.heap[g]? = w.heap[g]?) : TR g o rs w' := fun j u hj => (World.cell?_of_block (a := ⟨g, o + j, none⟩) hb).trans (h j u hj)
theorem SR.below {R g o c d : Nat} {rs : List Tok} {w w' : World} (h : SR R g o c d rs w) (hb : Below w.heap.size w w') : SR R g o c d rs w' :=
  ⟨(hb.block _ h.ltR).trans h.here, h.toks.keep (hb.block _ h.lt), Nat.lt_of_lt_of_le h.lt hb.size, h.ne, h.cap⟩
theorem SR.alloc {R g o c d : Nat} {rs : List Tok} {w : World} (h : SR R g o c d rs w) (x : Obj) : SR R g o c d rs (w.alloc x) := h.below (bal (Below.refl _ _) x)
theorem SR.cells {R g o c d : Nat} {rs : List Tok} {w : World} (h : SR R g o c d rs w) : w.cell? ⟨R, 0, none⟩ = some (.slice (some ⟨g, o, none⟩) rs.length c) ∧ w.cell? ⟨R, 1, none⟩ = some (.int .i64 (d : Int)) ∧ ∀ j, w.frozen? ⟨R, j, none⟩ = false :=
  ⟨(cells_at h.here).1 0, (cells_at h.here).1 1, (cells_at h.here).2.1⟩
theorem SR.head {R g o c d : Nat} {t : Tok} {rs : List Tok} {w : World} (h : SR R g o c d (t :: rs) w) :
    w.cell? ⟨g, o, none⟩ = some (.int .i64 (t.kind : Int)) ∧ w.cell? ⟨g, o + 1, none⟩ = some (.string (mkS t.text)) ∧ w.cell? ⟨g, o + 2, none⟩ = some (.int .u64 (wd t.cls 0)) ∧ w.cell? ⟨g, o + 3, none⟩ = some (.int .u64 (wd t.cls 1)) ∧ w.cell? ⟨g, o + 4, none⟩ = some (.int .u64 (wd t.cls 2)) ∧ w.cell? ⟨g, o + 5, none⟩ = some (.int .u64 (wd t.cls 3)) ∧ w.cell? ⟨g, o + 6, none⟩ = some (.int .i64 (t.pos : Int)) :=
  ⟨h.toks 0 _ rfl, h.toks 1 _ rfl, h.toks 2 _ rfl, h.toks 3 _ rfl, h.toks 4 _ rfl, h.toks 5 _ rfl, h.toks 6 _ rfl⟩
theorem SR.step {R g o c d : Nat} {t : Tok} {rs : List Tok} {w : World} (h : SR R g o c d (t :: rs) w) : SR R g (o + 7) (c - 1) d rs (w.setCell ⟨R, 0, none⟩ (.slice (some ⟨g, o + 7, none⟩) rs.length (c - 1))) := by
  have hc := h.cap
  simp only [List.length_cons] at hc
  refine ⟨heap_setCell_same _ R 0 _ _ _ h.here, ?_, by have := h.lt; simpa using this, h.ne, by omega⟩
  intro j u hj
  rw [cell_set_ne w ⟨R, 0, none⟩ _ g (o + 7 + j) h.ne, Nat.add_assoc]
  exact h.toks (7 + j) u (by rw [tokCells, List.getElem?_append_right (by simp [tokC]), ← hj]; congr 1; simp [tokC])
theorem gby_alloc {w w' : World} {r : Option Nat} (h : w.grownBy w' r) (o : Obj) : w.grownBy (w'.alloc o) r := h.trans (World.grownBy_alloc w' o r)
theorem gby_below {w w1 w2 : World} {r : Option Nat} (h : w.grownBy w1 r) (hb : Below w1.heap.size w1 w2) : w.grownBy w2 r := h.trans ⟨hb.os, hb.tape, hb.output, hb.size, fun k hk _ => hb.block k hk⟩
theorem below_gby {w w1 : World} (r : Option Nat) (hb : Below w.heap.size w w1) : w.grownBy w1 r := ⟨hb.os, hb.tape, hb.output, hb.size, fun k hk _ => hb.block k hk⟩
theorem gby_set {w w1 : World} {r : Option Nat} (h : w.grownBy w1 r) {b : Nat} (hb : w.heap.size ≤ b) (i : Nat) (u : Value) : w.grownBy (w1.setCell ⟨b, i, none⟩ u) r :=
  ⟨h.os, h.tape, h.output, by simpa using h.size, fun k hk hr => (heap_setCell_other w1 ⟨b, i, none⟩ k u (fun e => by have : k = b := e; omega)).trans (h.block k hk hr)⟩
theorem SR.set {R g o c d : Nat} {rs : List Tok} {w : World} (h : SR R g o c d rs w) {b : Nat} (h1 : b ≠ R) (h2 : b ≠ g) (i : Nat) (u : Value) : SR R g o c d rs (w.setCell ⟨b, i, none⟩ u) :=
  ⟨(heap_setCell_other w ⟨b, i, none⟩ R u (fun e => h1 e.symm)).trans h.here, h.toks.keep (heap_setCell_other w ⟨b, i, none⟩ g u (fun e => h2 e.symm)), by simpa using h.lt, h.ne, h.cap⟩
theorem gcell {w w1 : World} {r b : Nat} (h : w.grownBy w1 (some r)) (hb : b < w.heap.size) (hr : b ≠ r) : (∀ j, w1.cell? ⟨b, j, none⟩ = w.cell? ⟨b, j, none⟩) ∧ ∀ j, w1.frozen? ⟨b, j, none⟩ = w.frozen? ⟨b, j, none⟩ := by
  have e := h.block b hb (fun e => hr (Option.some.inj e))
  exact ⟨fun j => World.cell?_of_block (a := ⟨b, j, none⟩) e, fun j => by unfold World.frozen?; simp only [e]⟩
/-- The sign that comes. -/
def sgnOf : List Tok → List UInt8
  | [] => []
  | t :: _ => if t.kind = 5 then t.text else []
/-- It throws an error. -/
def PanF (c x : Int) (w : World) (e : Ending) (w' : World) : Prop := ∃ p, e = .panicked [{ v := .iface 44 (.pointer (some ⟨p, 0, none⟩)), recovered := false }] ∧ FaultI p c x w' ∧ w.heap.size ≤ p
set_option maxRecDepth 100000 in
set_option maxHeartbeats 800000 in
theorem stop_any {R g o c d : Nat} {t : Tok} {rs : List Tok} {w : World} (h : SR R g o c d (t :: rs) w) (x : Int) :
    Calls Tryd.prog 9 #[.pointer (some ⟨R, 0, none⟩), .int .i64 x] w fun e w' => PanF x t.pos w e w' ∧ Below w.heap.size w w' := by
  obtain ⟨c0, c1, fz⟩ := h.cells
  obtain ⟨_, _, _, _, _, _, a6⟩ := h.head
  clear h
  dsimp only [List.length] at c0
  go_enter Tryd.func9, Tryd.ntmps9
  repeat (first | go_values | go_skip | go_guarded | go_step | go_upon)
  exact ⟨rfl, ⟨_, rfl, heap_alloc_new _ _, Nat.le_refl _⟩, (by repeat (first | exact Below.refl _ _ | assumption | refine bal ?_ _ | refine bdr ?_ | refine bdrn ?_ _ | (refine bset ?_ (by first | exact Nat.le_refl _ | (simp; done) | (simp; omega) | omega) _) | refine bstep ?_ (by assumption)))⟩
set_option maxRecDepth 100000 in
set_option maxHeartbeats 800000 in
theorem ssign_any {R g o c d : Nat} {t : Tok} {rs : List Tok} {w : World} (h : SR R g o c d (t :: rs) w) :
    Calls Tryd.prog 19 #[.pointer (some ⟨R, 0, none⟩)] w (Ans (.string (mkS (sgnOf (t :: rs)))) w) := by
  obtain ⟨c0, c1, fz⟩ := h.cells
  obtain ⟨a0, a1, a2, a3, a4, a5, a6⟩ := h.head
  clear h
  dsimp only [List.length] at c0
  by_cases h5 : t.kind = 5
  · have m1 : ((t.kind : Int) != 5) = false := by simp; omega
    have HS := Lib.hid (show sgnOf (t :: rs) = t.text by rw [sgnOf, if_pos h5])
    clear h5
    go_enter Tryd.func19, Tryd.ntmps19
    repeat (first | go_values | go_skip | go_guarded | go_step | go_upon)
    go_ret
    rw [HS.out]
    exact ⟨rfl, (by repeat (first | exact Below.refl _ _ | assumption | refine bal ?_ _ | refine bdr ?_ | refine bdrn ?_ _ | (refine bset ?_ (by first | exact Nat.le_refl _ | (simp; done) | (simp; omega) | omega) _) | refine bstep ?_ (by assumption)))⟩
  · have m1 : ((t.kind : Int) != 5) = true := by simp; omega
    have HS := Lib.hid (show sgnOf (t :: rs) = [] by rw [sgnOf, if_neg h5])
    clear h5
    go_enter Tryd.func19, Tryd.ntmps19
    repeat (first | go_values | go_skip | go_guarded | go_step | go_upon)
    go_ret
    rw [HS.out]
    exact ⟨rfl, (by repeat (first | exact Below.refl _ _ | assumption | refine bal ?_ _ | refine bdr ?_ | refine bdrn ?_ _ | (refine bset ?_ (by first | exact Nat.le_refl _ | (simp; done) | (simp; omega) | omega) _) | refine bstep ?_ (by assumption)))⟩
set_option maxRecDepth 100000 in
set_option maxHeartbeats 800000 in
theorem snext_any {R g o c d : Nat} {t t2 : Tok} {rs : List Tok} {w : World} (h : SR R g o c d (t :: t2 :: rs) w) :
    Calls Tryd.prog 17 #[.pointer (some ⟨R, 0, none⟩)] w fun e w' => e = .returned (.agg #[.int .i64 (t.kind : Int), .string (mkS t.text), .int .u64 (wd t.cls 0), .int .u64 (wd t.cls 1), .int .u64 (wd t.cls 2), .int .u64 (wd t.cls 3), .int .i64 (t.pos : Int)]) ∧ SR R g (o + 7) (c - 1) d (t2 :: rs) w' ∧ w.grownBy w' (some R) := by
  obtain ⟨c0, c1, fz⟩ := h.cells
  obtain ⟨a0, a1, a2, a3, a4, a5, a6⟩ := h.head
  have hc := h.cap
  have HH := Lib.hid h
  have qR := h.ltR
  have qg := h.lt
  have qR1 : R < w.heap.size + 1 := by omega
  have qg1 : g < w.heap.size + 1 := by omega
  clear h
  dsimp only [List.length] at c0 hc
  have hm1 := cell_alloc_lt; have hm2 := frozen_alloc_lt; have hm3 := cell_set_lt; have hm4 := cell_set_gt
  go_enter Tryd.func17, Tryd.ntmps17
  repeat (first | go_values | go_skip | go_guarded | go_step | go_upon)
  refine bodyPost_ret (v := .agg #[.int .i64 (t.kind : Int), .string (mkS t.text), .int .u64 (wd t.cls 0), .int .u64 (wd t.cls 1), .int .u64 (wd t.cls 2), .int .u64 (wd t.cls 3), .int .i64 (t.pos : Int)]) (by simp [results, Tryd.results17, go_sem]) rfl ?_
  have h1 := HH.out.step
  exact ⟨rfl, (h1.alloc _).alloc _, gby_alloc (gby_alloc (gsetk w ⟨R, 0, none⟩ _) _) _⟩
set_option maxRecDepth 100000 in
set_option maxHeartbeats 800000 in
theorem swrong_any {R g o c d : Nat} {t : Tok} {rs : List Tok} {w : World} (h : SR R g o c d (t :: rs) w) :
    Calls Tryd.prog 16 #[.pointer (some ⟨R, 0, none⟩)] w fun e w' => PanF ((if t.kind = 6 then 3 else 4 : Nat) : Int) t.pos w e w' ∧ Below w.heap.size w w' := by
  obtain ⟨c0, c1, fz⟩ := h.cells
  obtain ⟨a0, a1, a2, a3, a4, a5, a6⟩ := h.head
  have HH := Lib.hid h
  clear h
  dsimp only [List.length] at c0
  by_cases h6 : t.kind = 6
  · have m1 : ((t.kind : Int) == 6) = true := by simp; omega
    rw [if_pos h6]
    clear h6
    go_enter Tryd.func16, Tryd.ntmps16
    repeat (first | go_values | go_skip | go_guarded | go_step | go_upon)
    refine (stop_any HH.out 3).mono ?_
    rintro e w1 ⟨⟨p, rfl, hp, hl⟩, hb1⟩
    dsimp only
    repeat (first | go_values | go_skip | go_guarded | go_step | go_upon)
    exact ⟨rfl, ⟨p, rfl, hp, hl⟩, hb1⟩
  · have m1 : ((t.kind : Int) == 6) = false := by simp; omega
    rw [if_neg h6]
    clear h6
    go_enter Tryd.func16, Tryd.ntmps16
    repeat (first | go_values | go_skip | go_guarded | go_step | go_upon)
    refine (stop_any HH.out 4).mono ?_
    rintro e w1 ⟨⟨p, rfl, hp, hl⟩, hb1⟩
    dsimp only
    repeat (first | go_values | go_skip | go_guarded | go_step | go_upon)
    exact ⟨rfl, ⟨p, rfl, hp, hl⟩, hb1⟩
set_option maxRecDepth 100000 in
set_option maxHeartbeats 800000 in
theorem must_yes {R g o c d : Nat} {t t2 : Tok} {rs : List Tok} {w : World} (h : SR R g o c d (t :: t2 :: rs) w) :
    Calls Tryd.prog 10 #[.pointer (some ⟨R, 0, none⟩), .int .i64 (t.kind : Int)] w fun e w' => e = .returned (.agg #[.int .i64 (t.kind : Int), .string (mkS t.text), .int .u64 (wd t.cls 0), .int .u64 (wd t.cls 1), .int .u64 (wd t.cls 2), .int .u64 (wd t.cls 3), .int .i64 (t.pos : Int)]) ∧ SR R g (o + 7) (c - 1) d (t2 :: rs) w' ∧ w.grownBy w' (some R) := by
  obtain ⟨c0, c1, fz⟩ := h.cells
  obtain ⟨a0, a1, a2, a3, a4, a5, a6⟩ := h.head
  have HH := Lib.hid h
  have qR := h.ltR
  have qg := h.lt
  clear h
  dsimp only [List.length] at c0
  have hm1 := cell_alloc_lt; have hm2 := frozen_alloc_lt; have hm3 := cell_set_lt; have hm4 := cell_set_gt
  go_enter Tryd.func10, Tryd.ntmps10
  repeat (first | go_values | go_skip | go_guarded | go_step | go_upon)
  refine (snext_any (HH.out.alloc _)).mono ?_
  rintro e w1 ⟨rfl, h1, g1⟩
  obtain ⟨hcB, hfB⟩ := gcell (b := w.heap.size) g1 (by simp) (by omega)
  have H1 := Lib.hid h1
  have G1 := Lib.hid g1
  clear h1 g1
  dsimp only
  repeat (first | go_values | go_skip | go_guarded | go_step | go_upon)
  refine bodyPost_ret (v := .agg #[.int .i64 (t.kind : Int), .string (mkS t.text), .int .u64 (wd t.cls 0), .int .u64 (wd t.cls 1), .int .u64 (wd t.cls 2), .int .u64 (wd t.cls 3), .int .i64 (t.pos : Int)]) (by simp [results, Tryd.results10, go_sem, hcB]) rfl ?_
  refine ⟨rfl, ?_, ?_⟩
  · repeat (with_reducible refine SR.set ?_ (by omega) (by omega) _ _)
    exact H1.out
  · repeat (with_reducible refine gby_set ?_ (Nat.le_refl _) _ _)
    exact (below_gby _ (bal (Below.refl _ _) _)).trans G1.out
set_option maxRecDepth 100000 in
set_option maxHeartbeats 800000 in
theorem must_no {R g o c d k : Nat} {t : Tok} {rs : List Tok} {w : World} (h : SR R g o c d (t :: rs) w) (hk : t.kind ≠ k) :
    Calls Tryd.prog 10 #[.pointer (some ⟨R, 0, none⟩), .int .i64 (k : Int)] w fun e w' => PanF ((if t.kind = 6 then 3 else 4 : Nat) : Int) t.pos w e w' ∧ Below w.heap.size w w' := by
  obtain ⟨c0, c1, fz⟩ := h.cells
  obtain ⟨a0, a1, a2, a3, a4, a5, a6⟩ := h.head
  have HH := Lib.hid h
  have qR := h.ltR
  have qg := h.lt
  have m1 : ((t.kind : Int) != k) = true := by simp; omega
  clear h hk
  dsimp only [List.length] at c0
  have hm1 := cell_alloc_lt; have hm2 := frozen_alloc_lt; have hm3 := cell_set_lt; have hm4 := cell_set_gt
  go_enter Tryd.func10, Tryd.ntmps10
  repeat (first | go_values | go_skip | go_guarded | go_step | go_upon)
  refine (swrong_any (HH.out.alloc _)).mono ?_
  rintro e w1 ⟨⟨p, rfl, hp, hl⟩, hb1⟩
  dsimp only
  repeat (first | go_values | go_skip | go_guarded | go_step | go_upon)
  simp only [World.size_alloc] at hl
  exact ⟨rfl, ⟨p, rfl, hp, by omega⟩, (by repeat (first | exact Below.refl _ _ | assumption | refine bal ?_ _ | refine bdr ?_ | refine bdrn ?_ _ | (refine bset ?_ (by first | exact Nat.le_refl _ | (simp; done) | (simp; omega) | omega) _) | refine bstep ?_ (by assumption)))⟩
end Go.Proofs.YtcogimlekmnpjaaDoor
