/- The walk of LexApart. | The walk of LexNamed. -/
import Derived.Test.YtlohpplpnddfaaaDoorG15
import Derived.Test.YtlohpplpnddfaaaDoorG8
namespace Go.Proofs.YtlohpplpnddfaaaDoor
open Go.RowKit Go.Sort

theorem skip_one (n : Bool) (b : UInt8) (u : List UInt8) : skipB n (b :: u) = (skipB n [b]).bind fun k => skipB k u := skip_app [b] u n
theorem skip_ten (n : Bool) {b : UInt8} (h : b.toNat = 10) : skipB n [b] = some false := by
  cases n
  · rw [skipB, if_neg (by omega), if_pos (by rw [h]; rfl)]; rfl
  · rw [skipB, h]; rfl
theorem skip_in {b : UInt8} (h : b.toNat ≠ 10) : skipB true [b] = some true := by
  have : (b.toNat != 10) = true := by simpa using h
  rw [skipB, this]; rfl
theorem skip_hash {b : UInt8} (h : b.toNat = 35) : skipB false [b] = some true := by
  rw [skipB, if_pos h]; rfl
theorem skip_blank {b : UInt8} (h : isBlank b.toNat = true) (h35 : b.toNat ≠ 35) : skipB false [b] = some false := by
  rw [skipB, if_neg h35, if_pos h]; rfl
theorem skip_bad {b : UInt8} (h : isBlank b.toNat = false) (h35 : b.toNat ≠ 35) : skipB false [b] = none := by
  rw [skipB, if_neg h35, h]; rfl
theorem skip_take {s : List UInt8} {k : Nat} {n nt : Bool} (hs : skipB false s = some nt) (hn : skipB false (s.take k) = some n) (hk : k < s.length) :
    skipB false (s.take (k + 1)) = skipB n [s[k]] ∧ skipB n [s[k]] ≠ none := by
  have e : s.take (k + 1) = s.take k ++ [s[k]] := by rw [List.take_add_one, List.getElem?_eq_getElem hk]; rfl
  have e1 : skipB false (s.take (k + 1)) = skipB n [s[k]] := by rw [e, skip_app, hn]; rfl
  refine ⟨e1, ?_⟩
  intro h
  rw [h] at e1
  have : skipB false s = none := by
    rw [← List.take_append_drop (k + 1) s, skip_app, e1]; rfl
  rw [hs] at this
  cases this
theorem el_bl {S : ByteArray} {k : Nat} (h : k < S.size) (h2 : k < (bl S).length) : ((bl S)[k]).toNat = S[k].toNat := by
  have h1 := byteAt_lt h2
  rw [byteAt_ba h] at h1
  exact h1.symm
set_option maxRecDepth 100000 in
set_option maxHeartbeats 1600000 in
theorem blank_any (S : ByteArray) (w : World) {nt : Bool} (hs : S.size ≤ 140737488355328) (h : skipB false (bl S) = some nt) : Calls Tryd.prog 40 #[.string S] w (Ans (.bool true) w) := by
  have hlen := bl_length S
  have H := Lib.hid h
  clear h
  go_enter Tryd.func40, Tryd.ntmps40
  repeat (first | go_values | go_skip | go_guarded | go_step | go_upon)
  go_loopw [3, 4] (fun v t wr => ∃ (k : Nat) (n : Bool), t = .int .i64 (k : Int) ∧ v = .bool n ∧ k ≤ S.size ∧ Hid (skipB false ((bl S).take k) = some n) ∧ Below w.heap.size w wr) (fun _ t _ => S.size - (intOf t).toNat)
  case atStart => exact ⟨0, false, rfl, rfl, by omega, Lib.hid rfl, Below.refl _ _⟩
  case round =>
    obtain ⟨k, n, rfl, rfl, hk, hn, hb⟩ := hrel
    rcases Nat.lt_or_ge k S.size with hlt | hge
    · have h256 := UInt8.toNat_lt S[k]
      have k1 : decide (k < S.size) = true := by simpa using hlt
      obtain ⟨e1, e2⟩ := skip_take H.out hn.out (by omega)
      have hel := el_bl hlt (by omega)
      by_cases h10 : S[k].toNat = 10
      · have m1 : ((S[k].toNat : Int) == 10) = true := by simp; omega
        have HX := Lib.hid (show skipB false ((bl S).take (k + 1)) = some false by rw [e1]; exact skip_ten n (by omega))
        clear e1 e2 hel h10
        repeat (first | go_values | go_skip | go_guarded | go_step | go_upon)
        exact ⟨⟨k + 1, false, by go_num, rfl, by omega, HX, (by repeat (first | exact Below.refl _ _ | assumption | refine bal ?_ _ | refine bdr ?_ | refine bdrn ?_ _ | (refine bset ?_ (by first | exact Nat.le_refl _ | (simp; done) | (simp; omega) | omega) _) | refine bstep ?_ (by assumption)))⟩, by simp [intOf]; omega⟩
      have m1 : ((S[k].toNat : Int) == 10) = false := by simp; omega
      cases n
      · by_cases h35 : S[k].toNat = 35
        · have m2 : ((S[k].toNat : Int) == 35) = true := by simp; omega
          have HX := Lib.hid (show skipB false ((bl S).take (k + 1)) = some true by rw [e1]; exact skip_hash (by omega))
          clear e1 e2 hel h10 h35
          repeat (first | go_values | go_skip | go_guarded | go_step | go_upon)
          exact ⟨⟨k + 1, true, by go_num, rfl, by omega, HX, (by repeat (first | exact Below.refl _ _ | assumption | refine bal ?_ _ | refine bdr ?_ | refine bdrn ?_ _ | (refine bset ?_ (by first | exact Nat.le_refl _ | (simp; done) | (simp; omega) | omega) _) | refine bstep ?_ (by assumption)))⟩, by simp [intOf]; omega⟩
        have m2 : ((S[k].toNat : Int) == 35) = false := by simp; omega
        cases hbk : isBlank S[k].toNat
        · exact absurd (skip_bad (by rw [hel]; exact hbk) (by omega)) e2
        · have HX := Lib.hid (show skipB false ((bl S).take (k + 1)) = some false by rw [e1]; exact skip_blank (by rw [hel]; exact hbk) (by omega))
          have hkk : S[k].toNat = 9 ∨ S[k].toNat = 13 ∨ S[k].toNat = 32 := by unfold isBlank at hbk; simp at hbk; omega
          have hmm : (((S[k].toNat : Int) != 9) = false) ∨ (((S[k].toNat : Int) != 9) = true ∧ ((S[k].toNat : Int) != 13) = false) ∨ (((S[k].toNat : Int) != 9) = true ∧ ((S[k].toNat : Int) != 13) = true ∧ ((S[k].toNat : Int) != 32) = false) := by
            simp only [bne_eq_false_iff_eq, bne_iff_ne]; omega
          have hm2 : (((S[k].toNat : Int) == 9) = true) ∨ (((S[k].toNat : Int) == 9) = false ∧ ((S[k].toNat : Int) == 13) = true) ∨ (((S[k].toNat : Int) == 9) = false ∧ ((S[k].toNat : Int) == 13) = false ∧ ((S[k].toNat : Int) == 32) = true) := by
            simp only [beq_iff_eq, beq_eq_false_iff_ne]; omega
          clear e1 e2 hel h10 h35 hbk hmm
          rcases hkk with q9 | q13 | q32
          · have z1 : ((S[k].toNat : Int) != 9) = false := by simp; omega
            clear q9 hm2
            repeat (first | go_values | go_skip | go_guarded | go_step | go_upon)
            exact ⟨⟨k + 1, false, by go_num, rfl, by omega, HX, (by repeat (first | exact Below.refl _ _ | assumption | refine bal ?_ _ | refine bdr ?_ | refine bdrn ?_ _ | (refine bset ?_ (by first | exact Nat.le_refl _ | (simp; done) | (simp; omega) | omega) _) | refine bstep ?_ (by assumption)))⟩, by simp [intOf]; omega⟩
          · have z1 : ((S[k].toNat : Int) != 9) = true := by simp; omega
            have z2 : ((S[k].toNat : Int) != 13) = false := by simp; omega
            clear q13 hm2
            repeat (first | go_values | go_skip | go_guarded | go_step | go_upon)
            exact ⟨⟨k + 1, false, by go_num, rfl, by omega, HX, (by repeat (first | exact Below.refl _ _ | assumption | refine bal ?_ _ | refine bdr ?_ | refine bdrn ?_ _ | (refine bset ?_ (by first | exact Nat.le_refl _ | (simp; done) | (simp; omega) | omega) _) | refine bstep ?_ (by assumption)))⟩, by simp [intOf]; omega⟩
          · have z1 : ((S[k].toNat : Int) != 9) = true := by simp; omega
            have z2 : ((S[k].toNat : Int) != 13) = true := by simp; omega
            have z3 : ((S[k].toNat : Int) != 32) = false := by simp; omega
            clear q32 hm2
            repeat (first | go_values | go_skip | go_guarded | go_step | go_upon)
            exact ⟨⟨k + 1, false, by go_num, rfl, by omega, HX, (by repeat (first | exact Below.refl _ _ | assumption | refine bal ?_ _ | refine bdr ?_ | refine bdrn ?_ _ | (refine bset ?_ (by first | exact Nat.le_refl _ | (simp; done) | (simp; omega) | omega) _) | refine bstep ?_ (by assumption)))⟩, by simp [intOf]; omega⟩
      · have HX := Lib.hid (show skipB false ((bl S).take (k + 1)) = some true by rw [e1]; exact skip_in (by omega))
        clear e1 e2 hel h10
        repeat (first | go_values | go_skip | go_guarded | go_step | go_upon)
        exact ⟨⟨k + 1, true, by go_num, rfl, by omega, HX, (by repeat (first | exact Below.refl _ _ | assumption | refine bal ?_ _ | refine bdr ?_ | refine bdrn ?_ _ | (refine bset ?_ (by first | exact Nat.le_refl _ | (simp; done) | (simp; omega) | omega) _) | refine bstep ?_ (by assumption)))⟩, by simp [intOf]; omega⟩
    · obtain rfl : k = S.size := by omega
      repeat (first | go_values | go_skip | go_guarded | go_step | go_upon)
      go_ret
      exact ⟨rfl, (by repeat (first | exact Below.refl _ _ | assumption | refine bal ?_ _ | refine bdr ?_ | refine bdrn ?_ _ | (refine bset ?_ (by first | exact Nat.le_refl _ | (simp; done) | (simp; omega) | omega) _) | refine bstep ?_ (by assumption)))⟩
theorem bl_cut (S : ByteArray) (a b : Nat) : bl (S.extract a b) = cutS (bl S) a b := by
  unfold cutS bl
  rw [ByteArray.data_extract, Array.toList_extract]
theorem cutS_zero (s : List UInt8) (b : Nat) : cutS s 0 b = s.take b := by simp [cutS]
/-- Two tokens that follow one another. -/
theorem Cuts.at {s : List UInt8} {a : Nat} {l : List Tok} (h : Cuts s a l) : ∀ {k : Nat} {p : Tok}, l[k]? = some p → p.pos < nextPos s (l.drop (k + 1)) ∧ nextPos s (l.drop (k + 1)) ≤ s.length := by
  induction h with
  | last => intro k p hp; simp at hp
  | @tok a n b t nt l ha e h35 hbl hnb hb hs hnt hc ih =>
    intro k p hp
    have bd := tokAt_bd ha e
    cases k with
    | zero =>
      simp at hp
      subst hp
      rw [List.drop_succ_cons, List.drop_zero, hc.pos]
      omega
    | succ k => exact ih (by simpa using hp)
theorem next_tok {s : List UInt8} {l : List Tok} {k : Nat} (hk : k ≤ l.length) : ∃ q, (l ++ [⟨6, [], 0, s.length⟩])[k]? = some q ∧ q.pos = nextPos s (l.drop k) := by
  rcases Nat.lt_or_ge k l.length with h | h
  · refine ⟨l[k], by rw [List.getElem?_append_left h, List.getElem?_eq_getElem h], ?_⟩
    rw [List.drop_eq_getElem_cons h]
    rfl
  · obtain rfl : k = l.length := by omega
    refine ⟨⟨6, [], 0, s.length⟩, by simp, ?_⟩
    rw [List.drop_length]
    rfl
theorem glue_step {s : List UInt8} {sep : Nat → List UInt8} {l : List Tok} {k : Nat} {p : Tok} (h : l[k]? = some p) : glue s sep k (l.drop k) = cutS s p.pos (nextPos s (l.drop (k + 1))) ++ sep k ++ glue s sep (k + 1) (l.drop (k + 1)) := by
  obtain ⟨hk, rfl⟩ := List.getElem?_eq_some_iff.1 h
  rw [List.drop_eq_getElem_cons hk, glue]
theorem glue_len {s : List UInt8} {sep : Nat → List UInt8} {c : Nat} (hsep : ∀ i, (sep i).length ≤ c) {a : Nat} {l : List Tok} (h : Cuts s a l) : ∀ i, (glue s sep i l).length ≤ s.length - a + c * l.length := by
  induction h with
  | last => intro i; rw [glue]; simp
  | @tok a n b t nt l ha e h35 hbl hnb hb hs hnt hc ih =>
    intro i
    have bd := tokAt_bd ha e
    have h1 := ih (i + 1)
    have h2 := hsep i
    rw [glue, hc.pos, bd.2.2, List.length_append, List.length_append, cutS_len hb, List.length_cons, Nat.mul_add]
    omega
/-- The tokens of a source, what stands ahead of the first, and their pieces. -/
theorem lexed_cuts {s : List UInt8} {l : List Tok} (h : lexed s = .inr l) : ∃ b nt ts, b ≤ s.length ∧ skipB false (cutS s 0 b) = some nt ∧ Cuts s b ts ∧ l = ts ++ [⟨6, [], 0, s.length⟩] := by
  obtain ⟨h1, h2⟩ := lexed_inr h
  obtain ⟨b, nt, ts, _, g2, g3, _, g5, g6⟩ := cuts_of h2 (Nat.zero_le _)
  exact ⟨b, nt, ts, g2, g3, g5, by simpa using g6⟩
def sepA : Nat → List UInt8 := fun _ => [10, 32]
theorem sepA_ok (i : Nat) : Sep (sepA i) := ⟨[32], rfl, rfl⟩
theorem glue_lexed {s : List UInt8} {sep : Nat → List UInt8} (hsep : ∀ i, Sep (sep i)) {a : Nat} {l : List Tok} (h : Cuts s a l) (h8 : (glue s sep 0 l).length ≤ 8192) :
    ∃ r, lexed (glue s sep 0 l) = .inr (r ++ [⟨6, [], 0, (glue s sep 0 l).length⟩]) ∧ r.map core = l.map core := by
  obtain ⟨r, r1, r2⟩ := glue_toks hsep h (glue s sep 0 l) 0 (2 * (glue s sep 0 l).length + 2) 0 [] rfl (Nat.zero_le _) (by omega)
  exact ⟨r, lexed_toks h8 (by rw [toks, r1]; simp), r2⟩
set_option maxRecDepth 100000 in
set_option maxHeartbeats 3200000 in
theorem apart_any (S : ByteArray) (w : World) (hg : Laid w) (hs : S.size ≤ 140737488351232) : Calls Tryd.prog 10 #[.string S] w (Ans (.bool true) w) := by
  have hls := bl_length S
  have HL := Lib.hid hg
  have HL1 := Lib.hid (fun (W : World) (h : Below w.heap.size w W) => HL.out.below h HL.out.pos)
  clear hg
  have hs2 : S.size ≤ 140737488355328 := by omega
  cases hA : lexed (bl S) with
  | inl ea =>
    have HA := Lib.hid hA
    clear hA
    go_enter Tryd.func10, Tryd.ntmps10
    repeat (first | go_values | go_skip | go_guarded | go_step | go_upon)
    refine (small3_any _ HL.out).mono ?_
    rintro e w1 ⟨rfl, hb1⟩
    obtain ⟨hc1, hf1⟩ := bcell hb1
    have hz1 := hb1.size
    try simp at hz1
    dsimp only
    repeat (first | go_values | go_skip | go_guarded | go_step | go_upon)
    refine (lexed_no S _ (HL1.out _ (by repeat (first | exact Below.refl _ _ | assumption | refine bal ?_ _ | refine bdr ?_ | refine bdrn ?_ _ | (refine bset ?_ (by first | exact Nat.le_refl _ | (simp; done) | (simp; omega) | omega) _) | refine bstep ?_ (by assumption)))) hs2 HA.out).mono ?_
    rintro e w2 ⟨⟨p, rfl, _, _⟩, hb2⟩
    dsimp only
    repeat (first | go_values | go_skip | go_guarded | go_step | go_upon)
    go_ret
    exact ⟨rfl, (by repeat (first | exact Below.refl _ _ | assumption | refine bal ?_ _ | refine bdr ?_ | refine bdrn ?_ _ | (refine bset ?_ (by first | exact Nat.le_refl _ | (simp; done) | (simp; omega) | omega) _) | refine bstep ?_ (by assumption)))⟩
  | inr la =>
    obtain ⟨b0, nt, ts, hb0, hsk, hc, rfl⟩ := lexed_cuts hA
    have HA := Lib.hid hA
    have lA := lexed_len hA
    simp only [List.length_append, List.length_cons, List.length_nil] at lA
    have hgl := glue_len (sep := sepA) (c := 2) (fun i => by simp [sepA]) hc 0
    have HC := Lib.hid hc
    have HK := Lib.hid hsk
    have hle : ts.length ≤ 8192 := by omega
    have hgs : (glue (bl S) sepA 0 ts).length ≤ 24576 := by omega
    generalize hG : glue (bl S) sepA 0 ts = G at *
    clear hA hc hsk hgl
    go_enter Tryd.func10, Tryd.ntmps10
    repeat (first | go_values | go_skip | go_guarded | go_step | go_upon)
    refine (small3_any _ HL.out).mono ?_
    rintro e w1 ⟨rfl, hb1⟩
    obtain ⟨hc1, hf1⟩ := bcell hb1
    have hz1 := hb1.size
    try simp at hz1
    dsimp only
    repeat (first | go_values | go_skip | go_guarded | go_step | go_upon)
    refine (lexed_ok S _ (HL1.out _ (by repeat (first | exact Below.refl _ _ | assumption | refine bal ?_ _ | refine bdr ?_ | refine bdrn ?_ _ | (refine bset ?_ (by first | exact Nat.le_refl _ | (simp; done) | (simp; omega) | omega) _) | refine bstep ?_ (by assumption)))) HA.out).mono ?_
    rintro e w2 ⟨v, rfl, hownA, hb2⟩
    rw [show (ts ++ [(⟨6, [], 0, (bl S).length⟩ : Tok)]).length = ts.length + 1 by simp] at hownA
    obtain ⟨ga, ca, hv, _⟩ := hownA.form (by omega)
    subst hv
    have k1 := @wrap_len
    dsimp only
    repeat (first | go_values | go_skip | go_guarded | go_step | go_upon)
    go_loopw [6, 7] (fun v t wr => ∃ (k : Nat) (T : ByteArray), t = .int .i64 (k : Int) ∧ v = .string T ∧ k ≤ ts.length ∧ T.size ≤ 24576 ∧ Hid (bl T ++ glue (bl S) sepA k (ts.drop k) = G) ∧ Below w2.heap.size w2 wr) (fun _ t _ => ts.length - (intOf t).toNat)
    case atStart => exact ⟨0, ⟨#[]⟩, rfl, rfl, Nat.zero_le _, Nat.zero_le _, Lib.hid (by rw [← hG]; rfl), Below.refl _ _⟩
    case round =>
      obtain ⟨k, T, rfl, rfl, hk, hT, hg, hb⟩ := hrel
      have oA := owns_below hownA hb
      rcases Nat.lt_or_ge k ts.length with hlt | hge
      · obtain ⟨p, hp⟩ : ∃ p, ts[k]? = some p := ⟨ts[k], List.getElem?_eq_getElem hlt⟩
        obtain ⟨q, hq, hqp⟩ := next_tok (s := bl S) (l := ts) (k := k + 1) (by omega)
        have hpq := HC.out.at hp
        rw [← hqp] at hpq
        have hp2 : (ts ++ [⟨6, [], 0, (bl S).length⟩])[k]? = some p := by rw [List.getElem?_append_left hlt]; exact hp
        have c1 := (tok_at oA (by simp) hp2).2.2.2.2.2.2
        have c2 := (tok_at oA (by simp) hq).2.2.2.2.2.2
        have hst := glue_step (s := bl S) (sep := sepA) hp
        rw [← hqp, ← bl_cut] at hst
        have HX := Lib.hid (show bl (T ++ S.extract p.pos q.pos ++ ⟨#[10, 32]⟩) ++ glue (bl S) sepA (k + 1) (ts.drop (k + 1)) = G by
          rw [← hg.out, hst, bl_add, bl_add]; simp [sepA, bl])
        have hTl : (T ++ S.extract p.pos q.pos ++ ⟨#[10, 32]⟩).size ≤ 24576 := by
          have := congrArg List.length HX.out
          rw [List.length_append, bl_length] at this
          omega
        have z1 : decide ((p.pos : Int) < 0) = false := by simp
        have z2 : decide (q.pos ≤ p.pos) = false := by simp; omega
        have z3 : decide (S.size < q.pos) = false := by simp; omega
        have z4 : p.pos ≤ q.pos := by omega
        have z5 : q.pos ≤ S.size := by omega
        have k5 : IntKind.i64.wrap ((k : Int) + 1) = (k : Int) + 1 := by rw [IntKind.wrap_i64]; omega
        clear hp hq hqp hp2 hst hownA oA hg
        repeat (first | go_values | go_skip | go_guarded | go_step | go_upon)
        go_region
        repeat (first | go_values | go_skip | go_guarded | go_step | go_upon)
        go_region
        repeat (first | go_values | go_skip | go_guarded | go_step | go_upon)
        exact ⟨⟨k + 1, _, by go_num, rfl, by omega, hTl, HX, (by repeat (first | exact Below.refl _ _ | assumption | refine bal ?_ _ | refine bdr ?_ | refine bdrn ?_ _ | (refine bset ?_ (by first | exact Nat.le_refl _ | (simp; done) | (simp; omega) | omega) _) | refine bstep ?_ (by assumption)))⟩, by simp [intOf]; omega⟩
      · obtain rfl : k = ts.length := by omega
        have hTG : bl T = G := by
          have := hg.out
          rw [List.drop_length, glue, List.append_nil] at this
          exact this
        have HTG := Lib.hid hTG
        obtain ⟨q0, hq0, hqp0⟩ := next_tok (s := bl S) (l := ts) (k := 0) (Nat.zero_le _)
        rw [List.drop_zero, HC.out.pos] at hqp0
        subst hqp0
        have c0 := (tok_at oA (by simp) hq0).2.2.2.2.2.2
        have ce := (tok_at oA (by simp) (show (ts ++ [⟨6, [], 0, (bl S).length⟩])[ts.length]? = some ⟨6, [], 0, (bl S).length⟩ by simp)).2.2.2.2.2.2
        rw [Nat.zero_mul, Nat.zero_add] at c0
        dsimp only at ce
        have HB := Lib.hid (fun w => blank_any (S.extract 0 q0.pos) w (nt := nt) (by rw [← bl_length, bl_cut, cutS_len hb0]; omega) (by rw [bl_cut]; exact HK.out))
        have z0 : q0.pos ≤ S.size := by omega
        have g3 : ((ts.length : Int) + 1 == 0) = false := by simp; omega
        have HO := Lib.hid oA
        clear hTG hq0 hownA oA hg
        have hTz : T.size ≤ 140737488355328 := by omega
        have hTgl : T.size = G.length := by rw [← bl_length, HTG.out]
        have hbw : Below w.heap.size w wr := bstep (bstep hb1 hb2) hb
        repeat (first | go_values | go_skip | go_guarded | go_step | go_upon)
        refine (HB.out _).mono ?_
        rintro e w5 ⟨rfl, hb5⟩
        obtain ⟨hc5, hf5⟩ := bcell hb5
        have hz5 := hb5.size
        try simp at hz5
        dsimp only
        by_cases h8 : 8192 < T.size
        · have HT := Lib.hid (lexed_big (s := bl T) (by rw [bl_length]; exact h8))
          have d9 : decide ((8192 : Int) < T.size) = true := by simp; omega
          repeat (first | go_values | go_skip | go_guarded | go_step | go_upon)
          refine (lexed_no T _ (HL1.out _ (by repeat (first | exact Below.refl _ _ | assumption | refine bal ?_ _ | refine bdr ?_ | refine bdrn ?_ _ | (refine bset ?_ (by first | exact Nat.le_refl _ | (simp; done) | (simp; omega) | omega) _) | refine bstep ?_ (by assumption)))) hTz HT.out).mono ?_
          rintro e w6 ⟨⟨p, rfl, hp, hl⟩, hb6⟩
          have HF := Lib.hid hp
          clear hp
          dsimp only
          have HW := Lib.hid (fun (W : World) (h : Below w6.heap.size w6 W) => HF.out.below h)
          repeat (first | go_values | go_skip | go_guarded | go_step | go_upon)
          refine (code_I (HL1.out _ (by repeat (first | exact Below.refl _ _ | assumption | refine bal ?_ _ | refine bdr ?_ | refine bdrn ?_ _ | (refine bset ?_ (by first | exact Nat.le_refl _ | (simp; done) | (simp; omega) | omega) _) | refine bstep ?_ (by assumption)))) (HW.out _ (by repeat (first | exact Below.refl _ _ | assumption | refine bal ?_ _ | refine bdr ?_ | refine bdrn ?_ _ | (refine bset ?_ (by first | exact Nat.le_refl _ | (simp; done) | (simp; omega) | omega) _) | refine bstep ?_ (by assumption)))) rfl).mono ?_
          rintro e w7 ⟨rfl, hb7⟩
          obtain ⟨hc7, hf7⟩ := bcell hb7
          have hz7 := hb7.size
          try simp at hz7
          dsimp only
          repeat (first | go_values | go_skip | go_guarded | go_step | go_upon)
          go_ret
          exact ⟨rfl, (by repeat (first | exact Below.refl _ _ | assumption | refine bal ?_ _ | refine bdr ?_ | refine bdrn ?_ _ | (refine bset ?_ (by first | exact Nat.le_refl _ | (simp; done) | (simp; omega) | omega) _) | refine bstep ?_ (by assumption)))⟩
        · obtain ⟨r, hr, hrc⟩ := glue_lexed sepA_ok HC.out (by rw [hG]; omega)
          rw [hG, ← HTG.out] at hr
          have HT := Lib.hid hr
          have d9 : decide ((8192 : Int) < T.size) = false := by simp; omega
          have HRC := Lib.hid hrc
          have hrl : r.length = ts.length := by have := congrArg List.length hrc; simpa using this
          clear hr hrc
          repeat (first | go_values | go_skip | go_guarded | go_step | go_upon)
          refine (lexed_ok T _ (HL1.out _ (by repeat (first | exact Below.refl _ _ | assumption | refine bal ?_ _ | refine bdr ?_ | refine bdrn ?_ _ | (refine bset ?_ (by first | exact Nat.le_refl _ | (simp; done) | (simp; omega) | omega) _) | refine bstep ?_ (by assumption)))) HT.out).mono ?_
          rintro e w6 ⟨v6, rfl, hownM, hb6⟩
          rw [show (r ++ [(⟨6, [], 0, (bl T).length⟩ : Tok)]).length = ts.length + 1 by simp [hrl]] at hownM
          obtain ⟨gm, cm, hv, _⟩ := hownM.form (by omega)
          subst hv
          dsimp only
          repeat (first | go_values | go_skip | go_guarded | go_step | go_upon)
          have oL := owns_below (owns_below (owns_below (HO.out) hb5) (Below.refl _ _)) hb6
          have HM := Lib.hid hownM
          have HLL := Lib.hid oL
          have hbw6 : Below w.heap.size w w6 := (by repeat (first | exact Below.refl _ _ | assumption | refine bal ?_ _ | refine bdr ?_ | refine bdrn ?_ _ | (refine bset ?_ (by first | exact Nat.le_refl _ | (simp; done) | (simp; omega) | omega) _) | refine bstep ?_ (by assumption)))
          clear hownM oL
          go_loopw [11] (fun t wr => ∃ k : Nat, t = .int .i64 (k : Int) ∧ k ≤ ts.length + 1 ∧ Below w6.heap.size w6 wr) (fun t _ => ts.length + 1 - (intOf t).toNat)
          case atStart => exact ⟨0, rfl, Nat.zero_le _, Below.refl _ _⟩
          case round =>
            obtain ⟨k, rfl, hk, hb⟩ := hrel
            rcases Nat.lt_or_ge k (ts.length + 1) with hlt | hge
            · have hcore : ((r ++ [(⟨6, [], 0, (bl T).length⟩ : Tok)]).map core)[k]? = ((ts ++ [(⟨6, [], 0, (bl S).length⟩ : Tok)]).map core)[k]? := by
                rw [List.map_append, List.map_append, HRC.out]; rfl
              obtain ⟨p, hp⟩ : ∃ p, (ts ++ [(⟨6, [], 0, (bl S).length⟩ : Tok)])[k]? = some p := ⟨_, List.getElem?_eq_getElem (by simp; omega)⟩
              obtain ⟨m, hm⟩ : ∃ m, (r ++ [(⟨6, [], 0, (bl T).length⟩ : Tok)])[k]? = some m := ⟨_, List.getElem?_eq_getElem (by simp; omega)⟩
              rw [List.getElem?_map, List.getElem?_map, hp, hm] at hcore
              obtain ⟨mk, mt, mc, mp⟩ := m
              obtain ⟨pk, pt, pc, pp⟩ := p
              simp only [Option.map_some, core, Option.some.injEq, Prod.mk.injEq] at hcore
              obtain ⟨rfl, rfl, rfl⟩ := hcore
              obtain ⟨a0, a1, a2, a3, a4, a5, a6⟩ := tok_at (owns_below HLL.out hb) (by simp) hp
              obtain ⟨b0, b1, b2, b3, b4, b5, b6⟩ := tok_at (owns_below HM.out hb) (by simp [hrl]) hm
              dsimp only at a0 a1 a2 a3 a4 a5 a6 b0 b1 b2 b3 b4 b5 b6
              clear hp hm
              repeat (first | go_values | go_skip | go_guarded | go_step | go_upon)
              have f5 := guard_cl
              have f6 : ∀ w, (Op.equalIn 10000 24 (.agg #[.int .u64 (wd mc 0), .int .u64 (wd mc 1), .int .u64 (wd mc 2), .int .u64 (wd mc 3)]) (.agg #[.int .u64 (wd mc 0), .int .u64 (wd mc 1), .int .u64 (wd mc 2), .int .u64 (wd mc 3)])).run Tryd.prog w = .ok true w := fun w => by rw [equal_cl]; simp
              go_still (by kernel_rfl)
              clear f5 f6
              simp only [Exit.then]
              repeat (first | go_values | go_skip | go_guarded | go_step | go_upon)
              exact ⟨⟨k + 1, by go_num, by omega, bdr hb⟩, by simp [intOf]; omega⟩
            · obtain rfl : k = ts.length + 1 := by omega
              repeat (first | go_values | go_skip | go_guarded | go_step | go_upon)
              go_ret
              exact ⟨rfl, (by repeat (first | exact Below.refl _ _ | assumption | refine bal ?_ _ | refine bdr ?_ | refine bdrn ?_ _ | (refine bset ?_ (by first | exact Nat.le_refl _ | (simp; done) | (simp; omega) | omega) _) | refine bstep ?_ (by assumption)))⟩
end Go.Proofs.YtlohpplpnddfaaaDoor
namespace Go.Proofs.YtlohpplpnddfaaaDoor
open Go.RowKit Go.Sort

theorem nbl_app (A B : ByteArray) : bl (A ++ B) = bl A ++ bl B := by simp [bl, ByteArray.data_append]
theorem nbl_inj {A B : ByteArray} (h : bl A = bl B) : A = B := by
  apply ByteArray.ext
  exact Array.toList_inj.1 h
theorem lName_b (S : ByteArray) (r : Bool) (w : World) (hs : S.size ≤ 140737488355328) (h : isName (bl S) = r) : Calls Tryd.prog 39 #[.string S] w (Ans (.bool r) w) := by
  subst h; exact lName_any S w hs
set_option maxRecDepth 100000 in
set_option maxHeartbeats 3200000 in
theorem named_any (S : ByteArray) (w : World) (hg : Laid w) (hs : S.size ≤ 140737488351232) : Calls Tryd.prog 9 #[.string S] w (Ans (.bool true) w) := by
  have hlen := bl_length S
  have hs2 : S.size ≤ 140737488355328 := by omega
  have HL := Lib.hid hg
  clear hg
  by_cases hbig : 8192 < S.size
  · have HN := Lib.hid (show isName (bl S) = false by rw [isName, hlen]; simp; omega)
    have d1 : decide ((8192 : Int) < S.size) = true := by simp; omega
    go_enter Tryd.func9, Tryd.ntmps9
    repeat (first | go_values | go_skip | go_guarded | go_step | go_upon)
    refine (small3_any _ HL.out).mono ?_
    rintro e w1 ⟨rfl, hb1⟩
    obtain ⟨hc1, hf1⟩ := bcell hb1
    have hz1 := hb1.size
    try simp at hz1
    dsimp only
    repeat (first | go_values | go_skip | go_guarded | go_step | go_upon)
    refine (lName_b S _ _ hs2 HN.out).mono ?_
    rintro e w2 ⟨rfl, hb2⟩
    obtain ⟨hc2, hf2⟩ := bcell hb2
    have hz2 := hb2.size
    try simp at hz2
    dsimp only
    repeat (first | go_values | go_skip | go_guarded | go_step | go_upon)
    go_ret
    exact ⟨rfl, (by repeat (first | exact Below.refl _ _ | assumption | refine bal ?_ _ | refine bdr ?_ | refine bdrn ?_ _ | (refine bset ?_ (by first | exact Nat.le_refl _ | (simp; done) | (simp; omega) | omega) _) | refine bstep ?_ (by assumption)))⟩
  · have d1 : decide ((8192 : Int) < S.size) = false := by simp; omega
    have h8 : S.size ≤ 8192 := by omega
    have HL1 := Lib.hid (fun (W : World) (h : Below w.heap.size w W) => HL.out.below h HL.out.pos)
    cases hn : isName (bl S)
    · have HN := Lib.hid hn
      cases ht : toks (bl S) with
      | inl er =>
        have HT := Lib.hid ht
        clear hn ht
        go_enter Tryd.func9, Tryd.ntmps9
        repeat (first | go_values | go_skip | go_guarded | go_step | go_upon)
        refine (small3_any _ HL.out).mono ?_
        rintro e w1 ⟨rfl, hb1⟩
        obtain ⟨hc1, hf1⟩ := bcell hb1
        have hz1 := hb1.size
        try simp at hz1
        dsimp only
        repeat (first | go_values | go_skip | go_guarded | go_step | go_upon)
        refine (lName_b S _ _ hs2 HN.out).mono ?_
        rintro e w2 ⟨rfl, hb2⟩
        obtain ⟨hc2, hf2⟩ := bcell hb2
        have hz2 := hb2.size
        try simp at hz2
        dsimp only
        repeat (first | go_values | go_skip | go_guarded | go_step | go_upon)
        refine (tokens_no S _ (HL1.out _ (by repeat (first | exact Below.refl _ _ | assumption | refine bal ?_ _ | refine bdr ?_ | refine bdrn ?_ _ | (refine bset ?_ (by first | exact Nat.le_refl _ | (simp; done) | (simp; omega) | omega) _) | refine bstep ?_ (by assumption)))) h8 HT.out).mono ?_
        rintro e w3 ⟨⟨p, rfl, hp, hl⟩, hb3⟩
        dsimp only
        repeat (first | go_values | go_skip | go_guarded | go_step | go_upon)
        go_ret
        exact ⟨rfl, (by repeat (first | exact Below.refl _ _ | assumption | refine bal ?_ _ | refine bdr ?_ | refine bdrn ?_ _ | (refine bset ?_ (by first | exact Nat.le_refl _ | (simp; done) | (simp; omega) | omega) _) | refine bstep ?_ (by assumption)))⟩
      | inr l =>
        have HT := Lib.hid ht
        by_cases h2 : l.length = 2
        · obtain ⟨t, t2, rfl⟩ : ∃ t t2, l = [t, t2] := by
            match l, h2 with
            | [t, t2], _ => exact ⟨t, t2, rfl⟩
          by_cases hk : t.kind = 1
          · have hne : t.text ≠ bl S := fun e => by have := toks_named ht hk e; rw [hn] at this; cases this
            have hne2 : mkS t.text ≠ S := fun e => hne (by rw [← e]; simp [mkS, bl])
            have s1 : ((mkS t.text).toList == S.toList) = false := by
              rw [Go.ByteArray.toList_eq, Go.ByteArray.toList_eq]
              simpa [mkS, bl] using hne
            have s3 : ¬ (mkS t.text).toList = S.toList := by simpa using s1
            have s4 : decide ((mkS t.text).toList = S.toList) = false := by simpa using s1
            clear hn ht hne
            go_enter Tryd.func9, Tryd.ntmps9
            repeat (first | go_values | go_skip | go_guarded | go_step | go_upon)
            refine (small3_any _ HL.out).mono ?_
            rintro e w1 ⟨rfl, hb1⟩
            obtain ⟨hc1, hf1⟩ := bcell hb1
            have hz1 := hb1.size
            try simp at hz1
            dsimp only
            repeat (first | go_values | go_skip | go_guarded | go_step | go_upon)
            refine (lName_b S _ _ hs2 HN.out).mono ?_
            rintro e w2 ⟨rfl, hb2⟩
            obtain ⟨hc2, hf2⟩ := bcell hb2
            have hz2 := hb2.size
            try simp at hz2
            dsimp only
            repeat (first | go_values | go_skip | go_guarded | go_step | go_upon)
            refine (tokens_ok S _ (HL1.out _ (by repeat (first | exact Below.refl _ _ | assumption | refine bal ?_ _ | refine bdr ?_ | refine bdrn ?_ _ | (refine bset ?_ (by first | exact Nat.le_refl _ | (simp; done) | (simp; omega) | omega) _) | refine bstep ?_ (by assumption)))) h8 HT.out).mono ?_
            rintro e w3 ⟨v, rfl, hown, hb3⟩
            obtain ⟨g, cap, hv, _⟩ := hown.form (by simp)
            subst hv
            have c0 : w3.cell? ⟨g, 0, none⟩ = some (.int .i64 1) := by rw [hown.cellAt 0 (by simp)]; simp [tokCells, tokC, hk]
            have c1 : w3.cell? ⟨g, 1, none⟩ = some (.string (mkS t.text)) := by rw [hown.cellAt 1 (by simp)]; simp [tokCells, tokC]
            clear hown
            dsimp only [List.length]
            repeat (first | go_values | go_skip | go_guarded | go_step | go_upon)
            go_ret
            exact ⟨rfl, (by repeat (first | exact Below.refl _ _ | assumption | refine bal ?_ _ | refine bdr ?_ | refine bdrn ?_ _ | (refine bset ?_ (by first | exact Nat.le_refl _ | (simp; done) | (simp; omega) | omega) _) | refine bstep ?_ (by assumption)))⟩
          · have m1 : ((t.kind : Int) == 1) = false := by simp; omega
            clear hn ht hk
            go_enter Tryd.func9, Tryd.ntmps9
            repeat (first | go_values | go_skip | go_guarded | go_step | go_upon)
            refine (small3_any _ HL.out).mono ?_
            rintro e w1 ⟨rfl, hb1⟩
            obtain ⟨hc1, hf1⟩ := bcell hb1
            have hz1 := hb1.size
            try simp at hz1
            dsimp only
            repeat (first | go_values | go_skip | go_guarded | go_step | go_upon)
            refine (lName_b S _ _ hs2 HN.out).mono ?_
            rintro e w2 ⟨rfl, hb2⟩
            obtain ⟨hc2, hf2⟩ := bcell hb2
            have hz2 := hb2.size
            try simp at hz2
            dsimp only
            repeat (first | go_values | go_skip | go_guarded | go_step | go_upon)
            refine (tokens_ok S _ (HL1.out _ (by repeat (first | exact Below.refl _ _ | assumption | refine bal ?_ _ | refine bdr ?_ | refine bdrn ?_ _ | (refine bset ?_ (by first | exact Nat.le_refl _ | (simp; done) | (simp; omega) | omega) _) | refine bstep ?_ (by assumption)))) h8 HT.out).mono ?_
            rintro e w3 ⟨v, rfl, hown, hb3⟩
            obtain ⟨g, cap, hv, _⟩ := hown.form (by simp)
            subst hv
            have c0 : w3.cell? ⟨g, 0, none⟩ = some (.int .i64 (t.kind : Int)) := by rw [hown.cellAt 0 (by simp)]; simp [tokCells, tokC]
            clear hown
            dsimp only [List.length]
            repeat (first | go_values | go_skip | go_guarded | go_step | go_upon)
            go_ret
            exact ⟨rfl, (by repeat (first | exact Below.refl _ _ | assumption | refine bal ?_ _ | refine bdr ?_ | refine bdrn ?_ _ | (refine bset ?_ (by first | exact Nat.le_refl _ | (simp; done) | (simp; omega) | omega) _) | refine bstep ?_ (by assumption)))⟩
        · have m2 : ((l.length : Int) == 2) = false := by simp; omega
          generalize hn2 : l.length = n at *
          have HN2 := Lib.hid hn2
          clear hn ht h2 hn2
          go_enter Tryd.func9, Tryd.ntmps9
          repeat (first | go_values | go_skip | go_guarded | go_step | go_upon)
          refine (small3_any _ HL.out).mono ?_
          rintro e w1 ⟨rfl, hb1⟩
          obtain ⟨hc1, hf1⟩ := bcell hb1
          have hz1 := hb1.size
          try simp at hz1
          dsimp only
          repeat (first | go_values | go_skip | go_guarded | go_step | go_upon)
          refine (lName_b S _ _ hs2 HN.out).mono ?_
          rintro e w2 ⟨rfl, hb2⟩
          obtain ⟨hc2, hf2⟩ := bcell hb2
          have hz2 := hb2.size
          try simp at hz2
          dsimp only
          repeat (first | go_values | go_skip | go_guarded | go_step | go_upon)
          refine (tokens_ok S _ (HL1.out _ (by repeat (first | exact Below.refl _ _ | assumption | refine bal ?_ _ | refine bdr ?_ | refine bdrn ?_ _ | (refine bset ?_ (by first | exact Nat.le_refl _ | (simp; done) | (simp; omega) | omega) _) | refine bstep ?_ (by assumption)))) h8 HT.out).mono ?_
          rintro e w3 ⟨v, rfl, hown, hb3⟩
          rw [HN2.out] at hown
          rcases owns_form2 hown with ⟨h0, hv⟩ | ⟨g, cap, hv⟩
          all_goals
            subst hv
            clear hown
            dsimp only
            repeat (first | go_values | go_skip | go_guarded | go_step | go_upon)
            go_ret
            exact ⟨rfl, (by repeat (first | exact Below.refl _ _ | assumption | refine bal ?_ _ | refine bdr ?_ | refine bdrn ?_ _ | (refine bset ?_ (by first | exact Nat.le_refl _ | (simp; done) | (simp; omega) | omega) _) | refine bstep ?_ (by assumption)))⟩
    · have HN := Lib.hid hn
      have HT := Lib.hid (named_toks hn)
      have hsp := isName_spec hn
      have HX := Lib.hid (show isName (bl (S ++ ⟨#[120]⟩)) = decide (S.size < 32) by rw [nbl_app, show bl ⟨#[120]⟩ = [120] from rfl, named_more hn, hlen])
      have hz : (S ++ ⟨#[120]⟩ : ByteArray).size ≤ 140737488355328 := by rw [← bl_length, nbl_app, List.length_append, hlen, show bl ⟨#[120]⟩ = [120] from rfl]; simp; omega
      have HZ := Lib.hid hz
      have e0 : mkS (bl S) = S := nbl_inj (by simp [mkS, bl])
      clear hn hz hsp
      go_enter Tryd.func9, Tryd.ntmps9
      repeat (first | go_values | go_skip | go_guarded | go_step | go_upon)
      refine (small3_any _ HL.out).mono ?_
      rintro e w1 ⟨rfl, hb1⟩
      obtain ⟨hc1, hf1⟩ := bcell hb1
      have hz1 := hb1.size
      try simp at hz1
      dsimp only
      repeat (first | go_values | go_skip | go_guarded | go_step | go_upon)
      refine (lName_b S _ _ hs2 HN.out).mono ?_
      rintro e w2 ⟨rfl, hb2⟩
      obtain ⟨hc2, hf2⟩ := bcell hb2
      have hz2 := hb2.size
      try simp at hz2
      dsimp only
      repeat (first | go_values | go_skip | go_guarded | go_step | go_upon)
      refine (tokens_ok S _ (HL1.out _ (by repeat (first | exact Below.refl _ _ | assumption | refine bal ?_ _ | refine bdr ?_ | refine bdrn ?_ _ | (refine bset ?_ (by first | exact Nat.le_refl _ | (simp; done) | (simp; omega) | omega) _) | refine bstep ?_ (by assumption)))) h8 HT.out).mono ?_
      rintro e w3 ⟨v, rfl, hown, hb3⟩
      obtain ⟨g, cap, hv, _⟩ := hown.form (by simp)
      subst hv
      have c0 : w3.cell? ⟨g, 0, none⟩ = some (.int .i64 1) := by rw [hown.cellAt 0 (by simp)]; rfl
      have c1 : w3.cell? ⟨g, 1, none⟩ = some (.string S) := by rw [hown.cellAt 1 (by simp)]; simp [tokCells, tokC, e0]
      clear hown
      dsimp only [List.length]
      cases h32 : decide (S.size < 32)
      all_goals
        rw [h32] at HX
        have d32 : decide ((S.size : Int) < 32) = decide (S.size < 32) := by apply decide_eq_decide.2; omega
        rw [h32] at d32
        clear h32
        repeat (first | go_values | go_skip | go_guarded | go_step | go_upon)
        refine (lName_b _ _ _ HZ.out HX.out).mono ?_
        rintro e w4 ⟨rfl, hb4⟩
        obtain ⟨hc4, hf4⟩ := bcell hb4
        have hz4 := hb4.size
        try simp at hz4
        dsimp only
        repeat (first | go_values | go_skip | go_guarded | go_step | go_upon)
        go_ret
        exact ⟨rfl, (by repeat (first | exact Below.refl _ _ | assumption | refine bal ?_ _ | refine bdr ?_ | refine bdrn ?_ _ | (refine bset ?_ (by first | exact Nat.le_refl _ | (simp; done) | (simp; omega) | omega) _) | refine bstep ?_ (by assumption)))⟩
end Go.Proofs.YtlohpplpnddfaaaDoor
