/- Tokens with blanks between each two are the same ones: plain. | The walk of the lexer laws' small case. | lex.Tokens of any source: the tokens, or what is wrong and where; an error's number and place. | Two tokens compared: the same ones. | Two rows of tokens compared (the document's Same): the same ones. | The walks of LexJoins and LexNotes. -/
import Derived.Test.YtlohpplpnddfaaaDoorG14
import Derived.Test.YtlohpplpnddfaaaDoorG7
import Derived.Test.YtlohpplpnddfaaaDoorG6
import Derived.Test.YtlohpplpnddfaaaDoorG3
import Derived.Test.YtlohpplpnddfaaaDoorG1
import Derived.Laws.StructEq
namespace Go.Proofs.YtlohpplpnddfaaaDoor
open Go.RowKit

/-- Behind these bytes: are we in a note (or none: they are no blanks)? -/
def skipB : Bool → List UInt8 → Option Bool
  | n, [] => some n
  | true, b :: l => skipB (b.toNat != 10) l
  | false, b :: l => if b.toNat = 35 then skipB true l else if isBlank b.toNat then skipB false l else none
theorem skip_app : ∀ (u v : List UInt8) (n : Bool), skipB n (u ++ v) = (skipB n u).bind fun k => skipB k v := by
  intro u
  induction u with
  | nil => intro v n; cases n <;> rfl
  | cons b u ih =>
    intro v n
    rw [List.cons_append]
    cases n
    · rw [skipB, skipB]
      split
      · exact ih v true
      split
      · exact ih v false
      · rfl
    · rw [skipB, skipB]
      exact ih v _
theorem skip_note {u : List UInt8} (h : ∀ b ∈ u, b ≠ 10) : skipB true u = some true := by
  induction u with
  | nil => rfl
  | cons b u ih =>
    have hb : b ≠ 10 := h b List.mem_cons_self
    have : (b.toNat != 10) = true := by
      simp
      intro e
      exact hb (UInt8.toNat_inj.1 e)
    rw [skipB, this]
    exact ih (fun c hc => h c (List.mem_cons_of_mem _ hc))
theorem skip_split : ∀ {v : List UInt8}, skipB true v = some false → ∃ v1 v2, v = v1 ++ 10 :: v2 ∧ (∀ b ∈ v1, b ≠ 10) ∧ skipB false v2 = some false := by
  intro v
  induction v with
  | nil => intro h; cases h
  | cons b v ih =>
    intro h
    by_cases hb : b = 10
    · subst hb
      refine ⟨[], v, rfl, (fun b hb => by cases hb), ?_⟩
      simpa [skipB] using h
    · have : (b.toNat != 10) = true := by
        simp
        intro e
        exact hb (UInt8.toNat_inj.1 e)
      rw [skipB, this] at h
      obtain ⟨v1, v2, e1, e2, e3⟩ := ih h
      refine ⟨b :: v1, v2, by rw [e1]; rfl, ?_, e3⟩
      intro c hc
      rcases List.mem_cons.1 hc with rfl | hc
      · exact hb
      · exact e2 c hc
theorem drop_next {t u : List UInt8} {q : Nat} {b : UInt8} (h : t.drop q = b :: u) : t.drop (q + 1) = u := by
  have := congrArg (List.drop 1) h
  simpa [List.drop_drop] using this
theorem drop_in {t u : List UInt8} {q : Nat} {b : UInt8} (h : t.drop q = b :: u) : q < t.length ∧ byteAt t q = b.toNat := by
  have hl := congrArg List.length h
  simp at hl
  refine ⟨by omega, ?_⟩
  have := drop_byte t q 0
  rw [h, Nat.add_zero] at this
  rw [← this]
  rfl
theorem drop_more {t u v : List UInt8} {q : Nat} (h : t.drop q = u ++ v) : t.drop (q + u.length) = v := by
  have := congrArg (List.drop u.length) h
  simpa [List.drop_drop] using this
theorem note_here {t v1 w : List UInt8} {q : Nat} (h : t.drop q = 35 :: (v1 ++ 10 :: w)) (hn : ∀ b ∈ v1, b ≠ 10) : noteEnd t q = q + (v1.length + 1) := by
  unfold noteEnd
  have : Lib.indexByte (t.drop q) 10 = ((v1.length + 1 : Nat) : Int) := by
    rw [h, ← List.cons_append]
    have := index_end (y := w) (index_none (l := 35 :: v1) (c := 10) (by
      intro b hb
      rcases List.mem_cons.1 hb with rfl | hb
      · decide
      · exact hn b hb))
    rw [this]
    rfl
  rw [this, if_pos (by omega)]
  rfl
/-- Blanks are passed. -/
theorem skip_run {t : List UInt8} {acc : List Tok} : ∀ (k : Nat) (u : List UInt8) (f q : Nat) (r : List UInt8), u.length ≤ k → t.drop q = u ++ r → skipB false u = some false → u.length ≤ f →
    ∃ f', f ≤ f' + u.length ∧ toksGo t f q acc = toksGo t f' (q + u.length) acc := by
  intro k
  induction k with
  | zero =>
    intro u f q r hk h hs hf
    obtain rfl : u = [] := List.eq_nil_of_length_eq_zero (by omega)
    exact ⟨f, by simp, by simp⟩
  | succ k ih =>
    intro u f q r hk h hs hf
    cases u with
    | nil => exact ⟨f, by simp, by simp⟩
    | cons b v =>
      simp at hf hk
      obtain ⟨f, rfl⟩ : ∃ g, f = g + 1 := ⟨f - 1, by omega⟩
      have hq := drop_in (show t.drop q = b :: (v ++ r) from h)
      rw [skipB] at hs
      split at hs
      · next h35 =>
        obtain ⟨v1, v2, e1, e2, e3⟩ := skip_split hs
        subst e1
        have hb : b = 35 := UInt8.toNat_inj.1 h35
        subst hb
        simp at hf hk
        obtain ⟨f, rfl⟩ : ∃ g, f = g + 1 := ⟨f - 1, by omega⟩
        have h2 : t.drop q = 35 :: (v1 ++ 10 :: (v2 ++ r)) := by rw [h]; simp
        have hd : t.drop (q + (v1.length + 1)) = 10 :: (v2 ++ r) := drop_more (u := 35 :: v1) (by rw [h2]; rfl)
        have hq2 := drop_in hd
        have hd2 := drop_next hd
        obtain ⟨f', g1, g2⟩ := ih v2 f (q + (v1.length + 1) + 1) r (by omega) hd2 e3 (by omega)
        refine ⟨f', by simp; omega, ?_⟩
        rw [toks_note hq.1 (by rw [hq.2]; exact h35), note_here h2 e2, toks_blank hq2.1 (by rw [hq2.2]; decide) (by rw [hq2.2]; rfl), g2]
        congr 1
        simp
        omega
      · next h35 =>
        split at hs
        · next hb =>
          obtain ⟨f', g1, g2⟩ := ih v f (q + 1) r (by omega) (drop_next h) hs (by omega)
          refine ⟨f', by simp; omega, ?_⟩
          rw [toks_blank hq.1 (by rw [hq.2]; exact h35) (by rw [hq.2]; exact hb), g2]
          congr 1
          simp
          omega
        · cases hs
/-- The bytes of s from a up to b. -/
def cutS (s : List UInt8) (a b : Nat) : List UInt8 := (s.drop a).take (b - a)
theorem cutS_len {s : List UInt8} {a b : Nat} (hb : b ≤ s.length) : (cutS s a b).length = b - a := by simp [cutS]; omega
theorem cutS_app {s : List UInt8} {a b c : Nat} (h1 : a ≤ b) (h2 : b ≤ c) : cutS s a c = cutS s a b ++ cutS s b c := by
  unfold cutS
  have e : c - a = (b - a) + (c - b) := by omega
  have e2 : s.drop b = (s.drop a).drop (b - a) := by rw [List.drop_drop]; congr 1; omega
  rw [e, e2, List.take_add]
theorem cutS_self (s : List UInt8) (a : Nat) : cutS s a a = [] := by simp [cutS]
theorem cutS_one {s : List UInt8} {a : Nat} (h : a < s.length) : cutS s a (a + 1) = [s[a]] := by
  unfold cutS
  rw [Nat.add_sub_cancel_left, List.drop_eq_getElem_cons h]
  rfl
theorem cutS_head {s : List UInt8} {a b : Nat} (h : a < b) (hb : b ≤ s.length) : cutS s a b = s[a] :: cutS s (a + 1) b := by
  rw [cutS_app (b := a + 1) (by omega) (by omega), cutS_one (by omega)]
  rfl
/-- The tokens of a source, each with the blanks behind it. -/
inductive Cuts (s : List UInt8) : Nat → List Tok → Prop
  | last : Cuts s s.length []
  | tok {a n b : Nat} {t : Tok} {nt : Bool} {l : List Tok} : a < s.length → tokAt s a = .inr (t, n) → byteAt s a ≠ 35 → isBlank (byteAt s a) = false → n ≤ b → b ≤ s.length →
      skipB false (cutS s n b) = some nt → (b < s.length → nt = false) → Cuts s b l → Cuts s a (t :: l)
theorem Cuts.notBlank {s : List UInt8} {b : Nat} {l : List Tok} (h : Cuts s b l) (hb : b < s.length) : isBlank (byteAt s b) = false := by
  cases h with
  | last => omega
  | tok _ _ _ h => exact h
theorem note_cut {s : List UInt8} {a : Nat} (ha : a < s.length) (h : byteAt s a = 35) : skipB false (cutS s a (noteEnd s a)) = some true ∧ (noteEnd s a < s.length → byteAt s (noteEnd s a) = 10) := by
  have hbd := noteEnd_bd ha (by omega)
  have h35 : s[a].toNat = 35 := by rw [← byteAt_lt ha]; exact h
  have key : ∀ b ∈ cutS s a (noteEnd s a), b ≠ 10 := by
    unfold noteEnd
    split
    · next h0 =>
      obtain ⟨n, hn⟩ := Int.eq_ofNat_of_zero_le h0
      rw [hn]
      have h1 := (indexByte_some hn).2
      intro b hb
      unfold cutS at hb
      simp at hb
      obtain ⟨i, hi, he⟩ := List.mem_take_iff_getElem.1 hb
      intro e
      refine h1 i (by omega) ?_
      rw [List.getElem?_eq_getElem (by omega), he, e]
    · next h0 =>
      have hm : Lib.indexByte (s.drop a) 10 = -1 := by have := Lib.indexByte_ge (s.drop a) 10; omega
      have h1 := indexByte_none hm
      intro b hb
      unfold cutS at hb
      obtain ⟨i, hi, he⟩ := List.mem_take_iff_getElem.1 hb
      intro e
      refine h1 i ?_
      rw [List.getElem?_eq_getElem (by omega), he, e]
  constructor
  · rw [cutS_head hbd.1 hbd.2] at key ⊢
    rw [skipB, if_pos h35]
    exact skip_note (fun b hb => key b (List.mem_cons_of_mem _ hb))
  · intro hlt
    unfold noteEnd at hlt ⊢
    split at hlt
    · next h0 =>
      rw [if_pos h0]
      obtain ⟨n, hn⟩ := Int.eq_ofNat_of_zero_le h0
      rw [hn]
      have h1 := (indexByte_some hn).1
      rw [← drop_byte]
      simp [byteAt, h1]
    · omega
theorem cuts_of {s : List UInt8} : ∀ {f a : Nat} {acc r : List Tok}, toksGo s f a acc = .inr r → a ≤ s.length →
    ∃ b nt l, a ≤ b ∧ b ≤ s.length ∧ skipB false (cutS s a b) = some nt ∧ (b < s.length → nt = false) ∧ Cuts s b l ∧ r = acc ++ l ++ [⟨6, [], 0, s.length⟩] := by
  intro f
  induction f with
  | zero => intro a acc r h; cases h
  | succ f ih =>
    intro a acc r h ha
    rw [toksGo] at h
    split at h
    · obtain rfl : a = s.length := by omega
      have e := Sum.inr.inj h
      subst e
      exact ⟨s.length, false, [], Nat.le_refl _, Nat.le_refl _, by rw [cutS_self]; rfl, fun _ => rfl, .last, by simp⟩
    next hlt =>
    split at h
    · next h35 =>
      have hbd := noteEnd_bd (s := s) (a := a) (by omega) (by omega)
      obtain ⟨c1, c2⟩ := note_cut (by omega) h35
      obtain ⟨b, nt, l, h1, h2, h3, h4, h5, h6⟩ := ih h hbd.2
      rcases Nat.lt_or_ge (noteEnd s a) b with hb | hb
      · refine ⟨b, nt, l, by omega, h2, ?_, h4, h5, h6⟩
        rw [cutS_app (b := noteEnd s a) (by omega) h1, skip_app, c1]
        have hm : s[noteEnd s a].toNat = 10 := by rw [← byteAt_lt]; exact c2 (by omega)
        rw [cutS_head hb h2] at h3 ⊢
        rw [skipB, hm, if_neg (by decide), if_pos (by decide)] at h3
        simp only [Option.bind, skipB]
        rw [hm]
        exact h3
      · obtain rfl : b = noteEnd s a := by omega
        rcases Nat.lt_or_ge (noteEnd s a) s.length with hl | hl
        · exfalso
          have h10 := c2 hl
          have := h5.notBlank hl
          rw [h10] at this
          cases this
        · exact ⟨noteEnd s a, true, l, by omega, h2, c1, fun hh => by omega, h5, h6⟩
    next h35 =>
    split at h
    · next hb =>
      obtain ⟨b, nt, l, h1, h2, h3, h4, h5, h6⟩ := ih h (by omega)
      refine ⟨b, nt, l, by omega, h2, ?_, h4, h5, h6⟩
      have hx : byteAt s a = s[a].toNat := byteAt_lt (by omega)
      rw [cutS_head (by omega) h2, skipB, if_neg (by rw [← hx]; exact h35), if_pos (by rw [← hx]; exact hb)]
      exact h3
    next hb =>
    split at h
    · cases h
    next t n e =>
    have bd := tokAt_bd (by omega) e
    obtain ⟨b, nt, l, h1, h2, h3, h4, h5, h6⟩ := ih h bd.2.1
    refine ⟨a, false, t :: l, Nat.le_refl _, ha, by rw [cutS_self]; rfl, fun _ => rfl, .tok (by omega) e h35 (by simpa using hb) h1 h2 h3 h4 h5, by rw [h6]; simp⟩
/-- Where the next token stands. -/
def nextPos (s : List UInt8) : List Tok → Nat
  | [] => s.length
  | t :: _ => t.pos
theorem Cuts.pos {s : List UInt8} {a : Nat} {l : List Tok} (h : Cuts s a l) : nextPos s l = a := by
  cases h with
  | last => rfl
  | tok h1 h2 => exact (tokAt_bd h1 h2).2.2
/-- The pieces, with something between each two and at the end. -/
def glue (s : List UInt8) (sep : Nat → List UInt8) : Nat → List Tok → List UInt8
  | _, [] => []
  | i, t :: l => cutS s t.pos (nextPos s l) ++ sep i ++ glue s sep (i + 1) l
/-- Blanks in a line of their own. -/
def Sep (u : List UInt8) : Prop := ∃ v, u = 10 :: v ∧ skipB false v = some false
theorem Sep.skip {u : List UInt8} (h : Sep u) (n : Bool) : skipB n u = some false := by
  obtain ⟨v, rfl, hv⟩ := h
  cases n
  · rw [skipB, if_neg (by decide), if_pos (by decide)]; exact hv
  · rw [skipB]; exact hv
def core (t : Tok) : Nat × List UInt8 × BitVec 256 := (t.kind, t.text, t.cls)
theorem blank_cont {b : Nat} (n : Nat) (h : b = 35 ∨ isBlank b = true) : cont n b = false := by
  rcases h with rfl | h
  · simp [cont, isLet, isDig]
  · simp [isBlank] at h
    rcases h with ((rfl | rfl) | rfl) | rfl <;> simp [cont, isLet, isDig]
theorem glue_toks {s : List UInt8} {sep : Nat → List UInt8} (hsep : ∀ i, Sep (sep i)) {a : Nat} {l : List Tok} (h : Cuts s a l) : ∀ (t : List UInt8) (i f q : Nat) (acc : List Tok), t.drop q = glue s sep i l → q ≤ t.length → t.length < f + q →
    ∃ r, toksGo t f q acc = .inr (acc ++ r ++ [⟨6, [], 0, t.length⟩]) ∧ r.map core = l.map core := by
  induction h with
  | last =>
    intro t i f q acc hd hq hf
    rw [glue] at hd
    have hl := congrArg List.length hd
    simp at hl
    obtain ⟨f, rfl⟩ : ∃ g, f = g + 1 := ⟨f - 1, by omega⟩
    exact ⟨[], by rw [toks_end (by omega)]; simp, rfl⟩
  | @tok a n b t0 nt l ha e h35 hbl hnb hb hs hnt hc ih =>
    intro t i f q acc hd hqt hf
    have bd := tokAt_bd ha e
    rw [glue, hc.pos, bd.2.2] at hd
    have hcl := cutS_len (s := s) (a := a) hb
    have hlen := congrArg List.length hd
    simp only [List.length_append, List.length_drop, hcl] at hlen
    obtain ⟨v, hv, _⟩ := hsep i
    have hsl : 1 ≤ (sep i).length := by rw [hv]; simp
    have hag : Agr s t a q b := by
      intro j hj
      rw [← drop_byte, hd, List.append_assoc]
      unfold byteAt
      rw [List.getElem?_append_left (by omega)]
      unfold cutS
      rw [List.getElem?_take, if_pos (by omega), List.getElem?_drop]
    have hq : q < t.length := by omega
    obtain ⟨f, rfl⟩ : ∃ g, f = g + 1 := ⟨f - 1, by omega⟩
    have hd2 : t.drop (q + (n - a)) = (cutS s n b ++ sep i) ++ glue s sep (i + 1) l := by
      rw [cutS_app (b := n) (by omega) hnb, List.append_assoc, List.append_assoc] at hd
      have := drop_more hd
      rw [cutS_len bd.2.1] at this
      rw [this, List.append_assoc]
    have hsk : skipB false (cutS s n b ++ sep i) = some false := by rw [skip_app, hs]; exact (hsep i).skip nt
    have htok := tok_agr ha e (hag.mono hnb) (by
      intro _
      unfold Ends
      apply blank_cont
      rcases Nat.lt_or_ge n b with hlt | hge
      · rw [cutS_head hlt hb, skipB] at hs
        have hx := hag (n - a) (by omega)
        rw [show a + (n - a) = n by omega] at hx
        rw [hx, byteAt_lt (show n < s.length by omega)]
        split at hs
        · next h => exact .inl h
        split at hs
        · next h => exact .inr h
        · cases hs
      · obtain rfl : n = b := by omega
        rw [cutS_self, List.nil_append, hv] at hd2
        rw [(drop_in hd2).2]
        exact .inr rfl)
    have hlc : (cutS s n b ++ sep i).length = (b - n) + (sep i).length := by rw [List.length_append, cutS_len hb]
    obtain ⟨f', g1, g2⟩ := skip_run (acc := acc ++ [⟨t0.kind, t0.text, t0.cls, q⟩]) _ (cutS s n b ++ sep i) f (q + (n - a)) (glue s sep (i + 1) l) (Nat.le_refl _) hd2 hsk (by omega)
    obtain ⟨r, r1, r2⟩ := ih t (i + 1) f' (q + (n - a) + (cutS s n b ++ sep i).length) (acc ++ [⟨t0.kind, t0.text, t0.cls, q⟩]) (drop_more hd2) (by omega) (by omega)
    refine ⟨⟨t0.kind, t0.text, t0.cls, q⟩ :: r, ?_, by rw [List.map_cons, List.map_cons, r2]; rfl⟩
    rw [toks_on hq (by rw [hag.here (by omega)]; exact h35) (by rw [hag.here (by omega)]; exact hbl) htok, g2, r1]
    simp
end Go.Proofs.YtlohpplpnddfaaaDoor
namespace Go.Proofs.YtlohpplpnddfaaaDoor
open Go.RowKit Go.Sort

/-- The small case: a <- 'x'. -/
def smallL : List UInt8 := [97, 32, 60, 45, 32, 39, 120, 39]
theorem small_toks : toks smallL = .inr [⟨1, [97], 0, 0⟩, ⟨2, [], 0, 2⟩, ⟨3, [120], 0, 5⟩, ⟨6, [], 0, 8⟩] := by
  unfold toks
  rfl
theorem tokens_ok (S : ByteArray) (w : World) (hg : Laid w) (hs : S.size ≤ 8192) {l : List Tok} (h : toks (bl S) = .inr l) :
    Calls Tryd.prog 37 #[.string S] w (fun e w' => ∃ v, e = .returned (.tuple #[v, .nilIface]) ∧ w'.ownsRow w.heap.size 53 7 v l.length (tokCells l) ∧ Below w.heap.size w w') := by
  have := tokens_any S w hg hs
  rw [h] at this
  exact this
theorem tokens_no (S : ByteArray) (w : World) (hg : Laid w) (hs : S.size ≤ 8192) {er : Nat × Nat} (h : toks (bl S) = .inl er) :
    Calls Tryd.prog 37 #[.string S] w (fun e w' => AnsFault er w (fun x => .tuple #[.slice none 0 0, x]) e w' ∧ Below w.heap.size w w') := by
  have := tokens_any S w hg hs
  rw [h] at this
  exact this
set_option maxRecDepth 100000 in
set_option maxHeartbeats 1600000 in
theorem small3_any (w : World) (hg : Laid w) : Calls Tryd.prog 36 #[] w (Ans (.bool true) w) := by
  have HT := Lib.hid (show toks (bl ⟨#[97, 32, 60, 45, 32, 39, 120, 39]⟩) = _ from small_toks)
  have HL := Lib.hid hg
  clear hg
  go_enter Tryd.func36, Tryd.ntmps36
  repeat (first | go_values | go_skip | go_guarded | go_step | go_upon)
  refine (tokens_ok ⟨#[97, 32, 60, 45, 32, 39, 120, 39]⟩ _ HL.out (by decide) HT.out).mono ?_
  rintro e w1 ⟨v, rfl, hown, hb1⟩
  obtain ⟨g, cap, hv, _⟩ := hown.form (by decide)
  subst hv
  have c1 : w1.cell? ⟨g, 1, none⟩ = some (.string ⟨#[97]⟩) := by rw [hown.cellAt 1 (by decide)]; rfl
  have c15 : w1.cell? ⟨g, 15, none⟩ = some (.string ⟨#[120]⟩) := by rw [hown.cellAt 15 (by decide)]; rfl
  have c21 : w1.cell? ⟨g, 21, none⟩ = some (.int .i64 6) := by rw [hown.cellAt 21 (by decide)]; rfl
  clear hown
  dsimp only [List.length]
  repeat (first | go_values | go_skip | go_guarded | go_step | go_upon)
  go_ret
  exact ⟨rfl, (by repeat (first | exact Below.refl _ _ | assumption | refine bal ?_ _ | refine bdr ?_ | refine bdrn ?_ _ | (refine bset ?_ (by first | exact Nat.le_refl _ | (simp; done) | (simp; omega) | omega) _) | refine bstep ?_ (by assumption)))⟩
end Go.Proofs.YtlohpplpnddfaaaDoor
namespace Go.Proofs.YtlohpplpnddfaaaDoor
open Go.RowKit Go.Sort

/-- A fault at a place that may lie below 0. -/
def FaultI (p : Nat) (c x : Int) (w : World) : Prop := w.heap[p]? = some (.cells #[.int .i64 c, .int .i64 x] 93 (0, 0))
/-- It answers such an error, of its own. -/
def AnsFaultI (c x : Int) (w : World) (v : Value → Value) (ev : Ending) (w' : World) : Prop := ∃ p, ev = .returned (v (.iface 90 (.pointer (some ⟨p, 0, none⟩)))) ∧ FaultI p c x w' ∧ w.heap.size ≤ p
theorem faultI_of {p : Nat} {er : Nat × Nat} {w : World} (h : FaultAt p er w) : FaultI p er.1 er.2 w := h
theorem FaultI.below {p : Nat} {c x : Int} {w w' : World} (h : FaultI p c x w) (hb : Below w.heap.size w w') : FaultI p c x w' := (hb.block _ (Array.getElem?_eq_some_iff.1 h).1).trans h
theorem FaultI.lt {p : Nat} {c x : Int} {w : World} (h : FaultI p c x w) : p < w.heap.size := (Array.getElem?_eq_some_iff.1 h).1
theorem code_I {p : Nat} {c x y : Int} {w : World} (hg : Laid w) (h : FaultI p c x w) (hy : y = c) : Calls Tryd.prog 21 #[.iface 90 (.pointer (some ⟨p, 0, none⟩))] w (Ans (.int .i64 y) w) := by
  subst hy; exact code_F p _ w hg ((cells_at h).1 0)
theorem at_I {p : Nat} {c x y : Int} {w : World} (hg : Laid w) (h : FaultI p c x w) (hy : y = x) : Calls Tryd.prog 34 #[.iface 90 (.pointer (some ⟨p, 0, none⟩))] w (Ans (.int .i64 y) w) := by
  subst hy; exact at_F p _ w hg ((cells_at h).1 1)
set_option maxHeartbeats 400000 in
theorem faultI_any (c x : Int) (w : World) :
    Calls Tryd.prog 62 #[.int .i64 c, .int .i64 x] w fun e w' => AnsFaultI c x w id e w' ∧ Below w.heap.size w w' := by
  go_enter Tryd.func62, Tryd.ntmps62
  repeat (first | go_values | go_skip | go_guarded | go_step | go_upon)
  go_ret
  exact ⟨⟨_, rfl, heap_alloc_new _ _, Nat.le_refl _⟩, (by repeat (first | exact Below.refl _ _ | assumption | refine bal ?_ _ | refine bdr ?_ | refine bdrn ?_ _ | (refine bset ?_ (by first | exact Nat.le_refl _ | (simp; done) | (simp; omega) | omega) _) | refine bstep ?_ (by assumption)))⟩
set_option maxRecDepth 100000 in
set_option maxHeartbeats 1600000 in
theorem tokens_long (S : ByteArray) (w : World) (h8 : 8192 < S.size) (hs : S.size ≤ 140737488355328) :
    Calls Tryd.prog 37 #[.string S] w (fun e w' => AnsFaultI 2 (-1) w (fun x => .tuple #[.slice none 0 0, x]) e w' ∧ Below w.heap.size w w') := by
  have d1 : decide ((8192 : Int) < S.size) = true := by simp; omega
  go_enter Tryd.func37, Tryd.ntmps37
  repeat (first | go_values | go_skip | go_guarded | go_step | go_upon)
  refine (faultI_any _ _ _).mono ?_
  rintro e w1 ⟨⟨p, rfl, hp, hl⟩, hb1⟩
  dsimp only [id]
  repeat (first | go_values | go_skip | go_guarded | go_step | go_upon)
  go_ret2
  exact ⟨⟨p, rfl, hp, hl⟩, hb1⟩
/-- The tokens of any source, or what is wrong, and where. -/
def lexed (s : List UInt8) : (Nat × Int) ⊕ List Tok :=
  if 8192 < s.length then .inl (2, -1) else match toks s with
    | .inl er => .inl (er.1, (er.2 : Int))
    | .inr l => .inr l
theorem lexed_inr {s : List UInt8} {l : List Tok} (h : lexed s = .inr l) : s.length ≤ 8192 ∧ toks s = .inr l := by
  unfold lexed at h
  split at h
  · cases h
  · split at h
    · cases h
    · next e => exact ⟨by omega, by rw [e, Sum.inr.inj h]⟩
theorem lexed_toks {s : List UInt8} {l : List Tok} (h8 : s.length ≤ 8192) (h : toks s = .inr l) : lexed s = .inr l := by
  rw [lexed, if_neg (by omega), h]
theorem lexed_bad {s : List UInt8} {er : Nat × Nat} (h8 : s.length ≤ 8192) (h : toks s = .inl er) : lexed s = .inl (er.1, (er.2 : Int)) := by
  rw [lexed, if_neg (by omega), h]
theorem lexed_big {s : List UInt8} (h8 : 8192 < s.length) : lexed s = .inl (2, -1) := by
  rw [lexed, if_pos h8]
theorem lexed_ok (S : ByteArray) (w : World) (hg : Laid w) {l : List Tok} (h : lexed (bl S) = .inr l) :
    Calls Tryd.prog 37 #[.string S] w (fun e w' => ∃ v, e = .returned (.tuple #[v, .nilIface]) ∧ w'.ownsRow w.heap.size 53 7 v l.length (tokCells l) ∧ Below w.heap.size w w') := by
  obtain ⟨h1, h2⟩ := lexed_inr h
  exact tokens_ok S w hg (by rw [← bl_length]; exact h1) h2
theorem lexed_no (S : ByteArray) (w : World) (hg : Laid w) (hs : S.size ≤ 140737488355328) {er : Nat × Int} (h : lexed (bl S) = .inl er) :
    Calls Tryd.prog 37 #[.string S] w (fun e w' => AnsFaultI er.1 er.2 w (fun x => .tuple #[.slice none 0 0, x]) e w' ∧ Below w.heap.size w w') := by
  have hlen := bl_length S
  unfold lexed at h
  split at h
  · next h8 =>
    have e := Sum.inl.inj h
    subst e
    exact tokens_long S w (by omega) hs
  · next h8 =>
    split at h
    · next er2 ht =>
      have e := Sum.inl.inj h
      subst e
      exact tokens_no S w hg (by omega) ht
    · cases h
end Go.Proofs.YtlohpplpnddfaaaDoor
namespace Go.Proofs.YtlohpplpnddfaaaDoor
open Go.RowKit Go.Sort

theorem guard_tok : Tryd.prog.eqGuardType Tryd.prog.depth 53 = false := by kernel_rfl
theorem equal_clD (w : World) (a0 a1 a2 a3 b0 b1 b2 b3 : Int) :
    (Op.equalIn 9999 24 (.agg #[.int .u64 a0, .int .u64 a1, .int .u64 a2, .int .u64 a3]) (.agg #[.int .u64 b0, .int .u64 b1, .int .u64 b2, .int .u64 b3])).run Tryd.prog w = .ok (a0 == b0 && (a1 == b1 && (a2 == b2 && a3 == b3))) w := by
  have e := fun (x y : Int) (w : World) => run_equalIn_int (P := Tryd.prog) w 9997 22 .u64 .u64 x y Tryd.underlying22
  rw [show 9999 = 9998 + 1 from rfl]
  unfold Op.equalIn
  simp only [Sem.run_bind, run_underlying Tryd.underlying24, Result.andThen_ok, size_word]
  simp [List.range', part, Sem.run_bind, e]
  by_cases h0 : a0 = b0 <;> by_cases h1 : a1 = b1 <;> by_cases h2 : a2 = b2 <;> by_cases h3 : a3 = b3 <;> simp [h0, h1, h2, h3]
theorem equal_tok (w : World) (a p : Int) (x : ByteArray) (c0 c1 c2 c3 : Int) : (Op.equalIn 10000 53 (.agg #[.int .i64 a, .string x, .int .u64 c0, .int .u64 c1, .int .u64 c2, .int .u64 c3, .int .i64 p]) (.agg #[.int .i64 a, .string x, .int .u64 c0, .int .u64 c1, .int .u64 c2, .int .u64 c3, .int .i64 p])).run Tryd.prog w = .ok true w := by
  have e1 := fun (x y : Int) (w : World) => run_equalIn_int (P := Tryd.prog) w 9998 3 .i64 .i64 x y Tryd.underlying3
  have e2 := fun (x y : ByteArray) (w : World) => run_equalIn_string (P := Tryd.prog) w 9998 9 x y Tryd.underlying9
  rw [show 10000 = 9998 + 1 + 1 from rfl, run_equalIn_struct (P := Tryd.prog) w _ 53 _ _ (by kernel_rfl) (by kernel_rfl)]
  simp only [Program.fieldsOf, Tryd.underlying53]
  simp only [Nat.reduceAdd] at e1 e2
  simp [Op.eqFields, part, Sem.run_bind, e1, e2, equal_clD]
end Go.Proofs.YtlohpplpnddfaaaDoor
namespace Go.Proofs.YtlohpplpnddfaaaDoor
open Go.RowKit Go.Sort

theorem tokCells_len (l : List Tok) : (tokCells l).length = l.length * 7 := by
  induction l with
  | nil => rfl
  | cons t l ih => rw [tokCells, List.length_append, ih, List.length_cons]; simp [tokC]; omega
theorem tokCells_get {l : List Tok} {k : Nat} {t : Tok} (h : l[k]? = some t) (j : Nat) (hj : j < 7) : (tokCells l)[k * 7 + j]? = (tokC t)[j]? := by
  induction l generalizing k with
  | nil => simp at h
  | cons u l ih =>
    cases k with
    | zero =>
      simp at h
      subst h
      rw [tokCells, Nat.zero_mul, Nat.zero_add, List.getElem?_append_left (by simp [tokC]; omega)]
    | succ k =>
      simp at h
      rw [tokCells, List.getElem?_append_right (by simp [tokC]; omega), ← ih h]
      congr 1
      simp [tokC]
      omega
/-- The cells of a token in a row. -/
theorem tok_at {w : World} {B g cap : Nat} {l : List Tok} {n : Nat} (h : w.ownsRow B 53 7 (.slice (some ⟨g, 0, none⟩) n cap) n (tokCells l)) (hn : l.length = n) {k : Nat} {t : Tok} (hk : l[k]? = some t) :
    w.cell? ⟨g, k * 7, none⟩ = some (.int .i64 (t.kind : Int)) ∧ w.cell? ⟨g, k * 7 + 1, none⟩ = some (.string (mkS t.text)) ∧ w.cell? ⟨g, k * 7 + 2, none⟩ = some (.int .u64 (wd t.cls 0)) ∧ w.cell? ⟨g, k * 7 + 3, none⟩ = some (.int .u64 (wd t.cls 1)) ∧ w.cell? ⟨g, k * 7 + 4, none⟩ = some (.int .u64 (wd t.cls 2)) ∧ w.cell? ⟨g, k * 7 + 5, none⟩ = some (.int .u64 (wd t.cls 3)) ∧ w.cell? ⟨g, k * 7 + 6, none⟩ = some (.int .i64 (t.pos : Int)) := by
  have hlt : k < l.length := (List.getElem?_eq_some_iff.1 hk).1
  have key : ∀ j, j < 7 → w.cell? ⟨g, k * 7 + j, none⟩ = (tokC t)[j]? := fun j hj => by rw [h.cellAt _ (by omega), tokCells_get hk j hj]
  exact ⟨key 0 (by decide), key 1 (by decide), key 2 (by decide), key 3 (by decide), key 4 (by decide), key 5 (by decide), key 6 (by decide)⟩
set_option maxRecDepth 100000 in
set_option maxHeartbeats 1600000 in
theorem tsame_any (l : List Tok) (n B1 B2 : Nat) (v1 v2 : Value) (w : World) (hlen : n ≤ 100000) (hn : l.length = n) (h1 : w.ownsRow B1 53 7 v1 n (tokCells l)) (h2 : w.ownsRow B2 53 7 v2 n (tokCells l)) :
    Calls Tryd.prog 38 #[v1, v2] w (Ans (.bool true) w) := by
  have f8 := guard_tok
  have f9 := equal_tok
  rcases owns_form2 h1 with ⟨hn1, hv1⟩ | ⟨g1, cap1, hv1⟩ <;> rcases owns_form2 h2 with ⟨hn2, hv2⟩ | ⟨g2, cap2, hv2⟩
  all_goals
    subst hv1
    subst hv2
  · clear hn1 hn2 hn h1 h2
    go_enter Tryd.func38, Tryd.ntmps38
    repeat (first | go_values | go_skip | go_guarded | go_step | go_upon)
    refine wp_loop_rounds 1 ?_
    rw [rounds_succ]
    repeat (first | go_values | go_skip | go_guarded | go_step | go_upon)
    go_ret
    exact ⟨rfl, (by repeat (first | exact Below.refl _ _ | assumption | refine bal ?_ _ | refine bdr ?_ | refine bdrn ?_ _ | (refine bset ?_ (by first | exact Nat.le_refl _ | (simp; done) | (simp; omega) | omega) _) | refine bstep ?_ (by assumption)))⟩
  · subst hn1
    clear hn h1 h2
    go_enter Tryd.func38, Tryd.ntmps38
    repeat (first | go_values | go_skip | go_guarded | go_step | go_upon)
    refine wp_loop_rounds 1 ?_
    rw [rounds_succ]
    repeat (first | go_values | go_skip | go_guarded | go_step | go_upon)
    go_ret
    exact ⟨rfl, (by repeat (first | exact Below.refl _ _ | assumption | refine bal ?_ _ | refine bdr ?_ | refine bdrn ?_ _ | (refine bset ?_ (by first | exact Nat.le_refl _ | (simp; done) | (simp; omega) | omega) _) | refine bstep ?_ (by assumption)))⟩
  · subst hn2
    clear hn h1 h2
    go_enter Tryd.func38, Tryd.ntmps38
    repeat (first | go_values | go_skip | go_guarded | go_step | go_upon)
    refine wp_loop_rounds 1 ?_
    rw [rounds_succ]
    repeat (first | go_values | go_skip | go_guarded | go_step | go_upon)
    go_ret
    exact ⟨rfl, (by repeat (first | exact Below.refl _ _ | assumption | refine bal ?_ _ | refine bdr ?_ | refine bdrn ?_ _ | (refine bset ?_ (by first | exact Nat.le_refl _ | (simp; done) | (simp; omega) | omega) _) | refine bstep ?_ (by assumption)))⟩
  · go_enter Tryd.func38, Tryd.ntmps38
    repeat (first | go_values | go_skip | go_guarded | go_step | go_upon)
    go_loopw [5] (fun t wr => ∃ k : Nat, k ≤ n ∧ t = .int .i64 k ∧ Below w.heap.size w wr) (fun t _ => n - (intOf t).toNat)
    case atStart => exact ⟨0, Nat.zero_le _, rfl, Below.refl _ _⟩
    case round =>
      obtain ⟨k, hk, rfl, hbr⟩ := hrel
      have o1 := owns_below h1 hbr
      have o2 := owns_below h2 hbr
      by_cases hlt : k < n
      · obtain ⟨p, hp⟩ : ∃ p, l[k]? = some p := ⟨l[k], List.getElem?_eq_getElem (by omega)⟩
        obtain ⟨a0, a1, a2, a3, a4, a5, a6⟩ := tok_at o1 hn hp
        obtain ⟨b0, b1, b2, b3, b4, b5, b6⟩ := tok_at o2 hn hp
        clear hp h1 h2 o1 o2 hn
        repeat (first | go_values | go_skip | go_guarded | go_step | go_upon)
        go_region
        repeat (first | go_values | go_skip | go_guarded | go_step | go_upon)
        exact ⟨⟨k + 1, by omega, by go_num, (by repeat (first | exact Below.refl _ _ | assumption | refine bal ?_ _ | refine bdr ?_ | refine bdrn ?_ _ | (refine bset ?_ (by first | exact Nat.le_refl _ | (simp; done) | (simp; omega) | omega) _) | refine bstep ?_ (by assumption)))⟩, by simp [intOf]; omega⟩
      · clear h1 h2 o1 o2
        repeat (first | go_values | go_skip | go_guarded | go_step | go_upon)
        go_ret
        exact ⟨rfl, (by repeat (first | exact Below.refl _ _ | assumption | refine bal ?_ _ | refine bdr ?_ | refine bdrn ?_ _ | (refine bset ?_ (by first | exact Nat.le_refl _ | (simp; done) | (simp; omega) | omega) _) | refine bstep ?_ (by assumption)))⟩
end Go.Proofs.YtlohpplpnddfaaaDoor
namespace Go.Proofs.YtlohpplpnddfaaaDoor
open Go.RowKit Go.Sort

/-- append(x, y...) where x is the call's own and y holds nothing. -/
theorem wpList_append_own_zero {P : Program} {w : World} {ops : Array Oper} {rest : List Oper} {o : Oper} {a : Act} {Q : Exit → Act → World → Prop} (hgd : o.guard = none) (s x : Operand) (t : TypeId)
    (ho : o.op = .call { callee := .builtin .append, args := #[s, x], argTypes := #[t, t] })
    (base : Nat) (e : TypeId) (i : TypeInfo) (size : Nat) (ht : P.underlying t = some (.slice e)) (hi : P.info? e = some i)
    (v : Value) (n : Nat) (xs : List Value) (ad : Addr) (c : Nat) (hs : a.eval s = v) (hown : w.ownsRow base e size v n xs) (hx : a.eval x = .slice (some ad) 0 c)
    (h : wpList P ops Q rest (a.put o.dst v) w) : wpList P ops Q (o :: rest) a w := by
  refine wpList_plain hgd fun K hK => ?_
  have hrun : (Builtin.append_ #[t, t] o.type #[v, .slice (some ad) 0 c]).run P w = .ok v w := by
    rcases hown.2 with ⟨rfl, rfl⟩ | ⟨g, cap, cur, rfl, _, _, hnc, _⟩
    · simp [Builtin.append_, run_underlying ht, sizeOf, typeInfo, hi, Builtin.lenOf, Builtin.firstCells, loadCells, loadCellsFrom]
    · simp [Builtin.append_, run_underlying ht, sizeOf, typeInfo, hi, Builtin.lenOf, Builtin.firstCells, hnc, storeCells, loadCells, loadCellsFrom]
  unfold Oper.wp
  simp [execOp, ho, resolve, invoke, builtin, hs, hx, hrun, Result.andThen]
  exact hK _ _ h
theorem lexed_ends {s : List UInt8} {l : List Tok} (h : lexed s = .inr l) : ∃ a, l = a ++ [⟨6, [], 0, s.length⟩] := by
  obtain ⟨h1, h2⟩ := lexed_inr h
  obtain ⟨a', g', e1, e2, e3⟩ := toks_go_ext (x := []) (g := 2 * s.length + 4) h2 (by omega) (by simp; omega)
  exact ⟨a', e1⟩
theorem bl_add (A B : ByteArray) : bl (A ++ B) = bl A ++ bl B := by simp [bl, ByteArray.data_append]
theorem toksGo_len {s : List UInt8} : ∀ {f a : Nat} {l r : List Tok}, toksGo s f a l = .inr r → a ≤ s.length → r.length + a ≤ l.length + s.length + 1 := by
  intro f
  induction f with
  | zero => intro a l r h; cases h
  | succ f ih =>
    intro a l r h ha
    rw [toksGo] at h
    split at h
    · have e := Sum.inr.inj h
      subst e
      simp
      omega
    split at h
    · next h1 h35 =>
      have b := noteEnd_bd (s := s) (a := a) (by omega) (by omega)
      have := ih h b.2
      omega
    split at h
    · have := ih h (by omega)
      omega
    split at h
    · cases h
    · next h1 _ _ t n e =>
      have b := tokAt_bd (by omega) e
      have := ih h b.2.1
      simp at this
      omega
theorem lexed_len {s : List UInt8} {l : List Tok} (h : lexed s = .inr l) : l.length ≤ s.length + 1 ∧ s.length ≤ 8192 := by
  obtain ⟨h1, h2⟩ := lexed_inr h
  have := toksGo_len h2 (by omega)
  simp at this
  omega
theorem wrap_len {n : Nat} (h : n ≤ 8192) : wrap64 (n : Int) = n := by unfold wrap64; omega
theorem len_in {n c : Nat} (h : n + 1 ≤ c) : (0 : Int) ≤ (n : Int) ∧ (n : Int) ≤ (c : Int) := by omega
theorem add_at (g j : Nat) : (⟨g, 0, none⟩ : Addr).add j = ⟨g, j, none⟩ := by unfold Addr.add; split <;> simp_all
theorem tok_news {w : World} {B g cap : Nat} {a b : List Tok} (h : w.ownsRow B 53 7 (.slice (some ⟨g, 0, none⟩) (a ++ b).length cap) (a ++ b).length (tokCells (a ++ b))) : ∀ j u, (tokCells a)[j]? = some u → w.cell? ((⟨g, 0, none⟩ : Addr).add j) = some u := fun j u hu => by
  have hj : j < (tokCells a).length := (List.getElem?_eq_some_iff.1 hu).1
  have hjl := tokCells_len a
  rw [add_at, h.cellAt j (by rw [List.length_append]; omega), tokCells_append, List.getElem?_append_left hj, hu]
theorem tok_one : ∀ l : List Tok, ∀ u ∈ tokCells l, u.oneCell' = true := by
  intro l
  induction l with
  | nil => intro u hu; cases hu
  | cons t l ih =>
    intro u hu
    rw [tokCells, List.mem_append] at hu
    rcases hu with hu | hu
    · simp only [tokC, List.mem_cons, List.not_mem_nil, or_false] at hu
      rcases hu with rfl | rfl | rfl | rfl | rfl | rfl | rfl <;> rfl
    · exact ih u hu
theorem toksGo_pos {s : List UInt8} : ∀ {f a : Nat} {l r : List Tok}, toksGo s f a l = .inr r → a ≤ s.length → (∀ t ∈ l, t.pos ≤ s.length) → ∀ t ∈ r, t.pos ≤ s.length := by
  intro f
  induction f with
  | zero => intro a l r h; cases h
  | succ f ih =>
    intro a l r h ha hl
    rw [toksGo] at h
    split at h
    · have e := Sum.inr.inj h
      subst e
      intro t ht
      rw [List.mem_append] at ht
      rcases ht with ht | ht
      · exact hl t ht
      · simp at ht; subst ht; exact Nat.le_refl _
    split at h
    · next h1 h35 =>
      have b := noteEnd_bd (s := s) (a := a) (by omega) (by omega)
      exact ih h b.2 hl
    split at h
    · exact ih h (by omega) hl
    split at h
    · cases h
    · next h1 _ _ t n e =>
      have b := tokAt_bd (by omega) e
      refine ih h b.2.1 ?_
      intro u hu
      rw [List.mem_append] at hu
      rcases hu with hu | hu
      · exact hl u hu
      · simp at hu; subst hu; omega
theorem lexed_pos {s : List UInt8} {l : List Tok} (h : lexed s = .inr l) : ∀ t ∈ l, t.pos ≤ s.length := by
  obtain ⟨h1, h2⟩ := lexed_inr h
  exact toksGo_pos h2 (by omega) (fun t ht => by simp at ht)
theorem join_step {w : World} {B m k z : Nat} {v : Value} {la lb : List Tok} {p : Tok} {x : Int} (hp : lb[k]? = some p) (hx : x = ((z + 1 + p.pos : Nat) : Int))
    (h : w.ownsRow B 53 7 v (m + k + 1) (tokCells (la ++ (lb.take k).map (shTok (z + 1))) ++ [.int .i64 (p.kind : Int), .string (mkS p.text), .int .u64 (wd p.cls 0), .int .u64 (wd p.cls 1), .int .u64 (wd p.cls 2), .int .u64 (wd p.cls 3), .int .i64 x])) :
    w.ownsRow B 53 7 v (m + (k + 1)) (tokCells (la ++ (lb.take (k + 1)).map (shTok (z + 1)))) := by
  subst hx
  rw [List.take_add_one, hp, List.map_append, ← List.append_assoc, tokCells_append]
  exact h
theorem owns_cap {w : World} {base : Nat} {e : TypeId} {size g n cap : Nat} {xs : List Value} (h : w.ownsRow base e size (.slice (some ⟨g, 0, none⟩) n cap) n xs) : n ≤ cap := by
  rcases h.2 with ⟨h1, _⟩ | ⟨g1, cap1, cur, h1, _, _, h2, _⟩
  · cases h1
  · cases h1; exact h2
set_option maxRecDepth 100000 in
set_option maxHeartbeats 3200000 in
theorem joins_any (S T : ByteArray) (w : World) (hg : Laid w) (hs : S.size ≤ 140737488351232) (ht : T.size ≤ 140737488351232) : Calls Tryd.prog 7 #[.string S, .string T] w (Ans (.bool true) w) := by
  have hls := bl_length S
  have hlt := bl_length T
  have HL := Lib.hid hg
  have HL1 := Lib.hid (fun (W : World) (h : Below w.heap.size w W) => HL.out.below h HL.out.pos)
  clear hg
  by_cases hS : 8192 < S.size
  · have d1 : decide ((8192 : Int) < S.size) = true := by simp; omega
    go_enter Tryd.func7, Tryd.ntmps7
    repeat (first | go_values | go_skip | go_guarded | go_step | go_upon)
    refine (small3_any _ HL.out).mono ?_
    rintro e w1 ⟨rfl, hb1⟩
    obtain ⟨hc1, hf1⟩ := bcell hb1
    have hz1 := hb1.size
    try simp at hz1
    dsimp only
    repeat (first | go_values | go_skip | go_guarded | go_step | go_upon)
    go_ret
    exact ⟨rfl, (by repeat (first | exact Below.refl _ _ | assumption | refine bal ?_ _ | refine bdr ?_ | refine bdrn ?_ _ | (refine bset ?_ (by first | exact Nat.le_refl _ | (simp; done) | (simp; omega) | omega) _) | refine bstep ?_ (by assumption)))⟩
  have d1 : decide ((8192 : Int) < S.size) = false := by simp; omega
  by_cases hT : 8192 < T.size
  · have d2 : decide ((8192 : Int) < T.size) = true := by simp; omega
    go_enter Tryd.func7, Tryd.ntmps7
    repeat (first | go_values | go_skip | go_guarded | go_step | go_upon)
    refine (small3_any _ HL.out).mono ?_
    rintro e w1 ⟨rfl, hb1⟩
    obtain ⟨hc1, hf1⟩ := bcell hb1
    have hz1 := hb1.size
    try simp at hz1
    dsimp only
    repeat (first | go_values | go_skip | go_guarded | go_step | go_upon)
    go_ret
    exact ⟨rfl, (by repeat (first | exact Below.refl _ _ | assumption | refine bal ?_ _ | refine bdr ?_ | refine bdrn ?_ _ | (refine bset ?_ (by first | exact Nat.le_refl _ | (simp; done) | (simp; omega) | omega) _) | refine bstep ?_ (by assumption)))⟩
  have d2 : decide ((8192 : Int) < T.size) = false := by simp; omega
  have hs2 : S.size ≤ 140737488355328 := by omega
  have ht2 : T.size ≤ 140737488355328 := by omega
  cases hA : lexed (bl S) with
  | inl ea =>
    have HA := Lib.hid hA
    cases hB : lexed (bl T) with
    | inl eb =>
      have HB := Lib.hid hB
      clear hA hB
      go_enter Tryd.func7, Tryd.ntmps7
      repeat (first | go_values | go_skip | go_guarded | go_step | go_upon)
      refine (small3_any _ HL.out).mono ?_
      rintro e w1 ⟨rfl, hb1⟩
      obtain ⟨hc1, hf1⟩ := bcell hb1
      have hz1 := hb1.size
      try simp at hz1
      dsimp only
      repeat (first | go_values | go_skip | go_guarded | go_step | go_upon)
      refine (lexed_no S _ (HL1.out _ (by repeat (first | exact Below.refl _ _ | assumption | refine bal ?_ _ | refine bdr ?_ | refine bdrn ?_ _ | (refine bset ?_ (by first | exact Nat.le_refl _ | (simp; done) | (simp; omega) | omega) _) | refine bstep ?_ (by assumption)))) hs2 HA.out).mono ?_
      rintro e w2 ⟨⟨p, rfl, _, _⟩, hb2⟩
      dsimp only
      repeat (first | go_values | go_skip | go_guarded | go_step | go_upon)
      refine (lexed_no T _ (HL1.out _ (by repeat (first | exact Below.refl _ _ | assumption | refine bal ?_ _ | refine bdr ?_ | refine bdrn ?_ _ | (refine bset ?_ (by first | exact Nat.le_refl _ | (simp; done) | (simp; omega) | omega) _) | refine bstep ?_ (by assumption)))) ht2 HB.out).mono ?_
      rintro e w3 ⟨⟨p3, rfl, _, _⟩, hb3⟩
      dsimp only
      repeat (first | go_values | go_skip | go_guarded | go_step | go_upon)
      go_ret
      exact ⟨rfl, (by repeat (first | exact Below.refl _ _ | assumption | refine bal ?_ _ | refine bdr ?_ | refine bdrn ?_ _ | (refine bset ?_ (by first | exact Nat.le_refl _ | (simp; done) | (simp; omega) | omega) _) | refine bstep ?_ (by assumption)))⟩
    | inr lb =>
      have HB := Lib.hid hB
      clear hA hB
      go_enter Tryd.func7, Tryd.ntmps7
      repeat (first | go_values | go_skip | go_guarded | go_step | go_upon)
      refine (small3_any _ HL.out).mono ?_
      rintro e w1 ⟨rfl, hb1⟩
      obtain ⟨hc1, hf1⟩ := bcell hb1
      have hz1 := hb1.size
      try simp at hz1
      dsimp only
      repeat (first | go_values | go_skip | go_guarded | go_step | go_upon)
      refine (lexed_no S _ (HL1.out _ (by repeat (first | exact Below.refl _ _ | assumption | refine bal ?_ _ | refine bdr ?_ | refine bdrn ?_ _ | (refine bset ?_ (by first | exact Nat.le_refl _ | (simp; done) | (simp; omega) | omega) _) | refine bstep ?_ (by assumption)))) hs2 HA.out).mono ?_
      rintro e w2 ⟨⟨p, rfl, _, _⟩, hb2⟩
      dsimp only
      repeat (first | go_values | go_skip | go_guarded | go_step | go_upon)
      refine (lexed_ok T _ (HL1.out _ (by repeat (first | exact Below.refl _ _ | assumption | refine bal ?_ _ | refine bdr ?_ | refine bdrn ?_ _ | (refine bset ?_ (by first | exact Nat.le_refl _ | (simp; done) | (simp; omega) | omega) _) | refine bstep ?_ (by assumption)))) HB.out).mono ?_
      rintro e w3 ⟨v3, rfl, _, hb3⟩
      dsimp only
      repeat (first | go_values | go_skip | go_guarded | go_step | go_upon)
      go_ret
      exact ⟨rfl, (by repeat (first | exact Below.refl _ _ | assumption | refine bal ?_ _ | refine bdr ?_ | refine bdrn ?_ _ | (refine bset ?_ (by first | exact Nat.le_refl _ | (simp; done) | (simp; omega) | omega) _) | refine bstep ?_ (by assumption)))⟩
  | inr la =>
    obtain ⟨la', rfl⟩ := lexed_ends hA
    have hA2 := lexed_inr hA
    have HA := Lib.hid hA
    clear hA
    have g1 : decide ((0 : Int) < (la'.length + 1 : Nat)) = true := by simp
    have g2 : (((la'.length + 1 : Nat) : Int) == 0) = false := by simp; omega
    cases hB : lexed (bl T) with
    | inl eb =>
      have HB := Lib.hid hB
      clear hB
      go_enter Tryd.func7, Tryd.ntmps7
      repeat (first | go_values | go_skip | go_guarded | go_step | go_upon)
      refine (small3_any _ HL.out).mono ?_
      rintro e w1 ⟨rfl, hb1⟩
      obtain ⟨hc1, hf1⟩ := bcell hb1
      have hz1 := hb1.size
      try simp at hz1
      dsimp only
      repeat (first | go_values | go_skip | go_guarded | go_step | go_upon)
      refine (lexed_ok S _ (HL1.out _ (by repeat (first | exact Below.refl _ _ | assumption | refine bal ?_ _ | refine bdr ?_ | refine bdrn ?_ _ | (refine bset ?_ (by first | exact Nat.le_refl _ | (simp; done) | (simp; omega) | omega) _) | refine bstep ?_ (by assumption)))) HA.out).mono ?_
      rintro e w2 ⟨v, rfl, hown, hb2⟩
      obtain ⟨g, cap, hv, _⟩ := hown.form (by simp)
      subst hv
      clear hown
      dsimp only [List.length_append, List.length]
      repeat (first | go_values | go_skip | go_guarded | go_step | go_upon)
      refine (lexed_no T _ (HL1.out _ (by repeat (first | exact Below.refl _ _ | assumption | refine bal ?_ _ | refine bdr ?_ | refine bdrn ?_ _ | (refine bset ?_ (by first | exact Nat.le_refl _ | (simp; done) | (simp; omega) | omega) _) | refine bstep ?_ (by assumption)))) ht2 HB.out).mono ?_
      rintro e w3 ⟨⟨p3, rfl, _, _⟩, hb3⟩
      dsimp only
      repeat (first | go_values | go_skip | go_guarded | go_step | go_upon)
      go_ret
      exact ⟨rfl, (by repeat (first | exact Below.refl _ _ | assumption | refine bal ?_ _ | refine bdr ?_ | refine bdrn ?_ _ | (refine bset ?_ (by first | exact Nat.le_refl _ | (simp; done) | (simp; omega) | omega) _) | refine bstep ?_ (by assumption)))⟩
    | inr lb =>
      have hB2 := lexed_inr hB
      obtain ⟨lb', hlb⟩ := lexed_ends hB
      have HB := Lib.hid hB
      clear hB
      have hn : 0 < lb.length := by rw [hlb]; simp
      clear hlb
      by_cases h8 : S.size + T.size + 1 ≤ 8192
      · have hbz : bl (S ++ ⟨#[10]⟩ ++ T) = bl S ++ 10 :: bl T := by rw [bl_add, bl_add, show bl ⟨#[10]⟩ = [10] from rfl]; simp
        have hzl : (S ++ ⟨#[10]⟩ ++ T).size = S.size + T.size + 1 := by rw [← bl_length, hbz]; simp; omega
        obtain ⟨a', e1, e2⟩ := toks_join hA2.2 hB2.2
        obtain ⟨e3, _⟩ := List.append_inj' e1 rfl
        subst e3
        rw [← hbz] at e2
        have HT := Lib.hid (lexed_toks (by rw [bl_length]; omega) e2)
        have lA := lexed_len HA.out
        have lB := lexed_len HB.out
        have lL := lexed_len HT.out
        simp only [List.length_append, List.length_cons, List.length_nil, List.length_map] at lA lL
        obtain ⟨i0, iH, iz, is, ib⟩ := info_parts info_tok
        have d3 : decide ((8192 : Int) < (S.size : Int) + T.size + 1) = false := by simp; omega
        have hle : la'.length ≤ 8192 := by omega
        clear e1 e2 hA2 hB2
        go_enter Tryd.func7, Tryd.ntmps7
        repeat (first | go_values | go_skip | go_guarded | go_step | go_upon)
        refine (small3_any _ HL.out).mono ?_
        rintro e w1 ⟨rfl, hb1⟩
        obtain ⟨hc1, hf1⟩ := bcell hb1
        have hz1 := hb1.size
        try simp at hz1
        dsimp only
        repeat (first | go_values | go_skip | go_guarded | go_step | go_upon)
        refine (lexed_ok S _ (HL1.out _ (by repeat (first | exact Below.refl _ _ | assumption | refine bal ?_ _ | refine bdr ?_ | refine bdrn ?_ _ | (refine bset ?_ (by first | exact Nat.le_refl _ | (simp; done) | (simp; omega) | omega) _) | refine bstep ?_ (by assumption)))) HA.out).mono ?_
        rintro e w2 ⟨v, rfl, hownA, hb2⟩
        obtain ⟨ga, ca, hv, _⟩ := hownA.form (by simp)
        subst hv
        dsimp only [List.length_append, List.length]
        repeat (first | go_values | go_skip | go_guarded | go_step | go_upon)
        refine (lexed_ok T _ (HL1.out _ (by repeat (first | exact Below.refl _ _ | assumption | refine bal ?_ _ | refine bdr ?_ | refine bdrn ?_ _ | (refine bset ?_ (by first | exact Nat.le_refl _ | (simp; done) | (simp; omega) | omega) _) | refine bstep ?_ (by assumption)))) HB.out).mono ?_
        rintro e w3 ⟨v3, rfl, hownB, hb3⟩
        obtain ⟨gb, cb, hv, _⟩ := hownB.form (by omega)
        subst hv
        dsimp only
        repeat (first | go_values | go_skip | go_guarded | go_step | go_upon)
        refine (lexed_ok _ _ (HL1.out _ (by repeat (first | exact Below.refl _ _ | assumption | refine bal ?_ _ | refine bdr ?_ | refine bdrn ?_ _ | (refine bset ?_ (by first | exact Nat.le_refl _ | (simp; done) | (simp; omega) | omega) _) | refine bstep ?_ (by assumption)))) HT.out).mono ?_
        rintro e w4 ⟨v4, rfl, hownL, hb4⟩
        dsimp only
        have k1 := @wrap_len
        have hcA := owns_cap hownA
        simp only [List.length_append, List.length_cons, List.length_nil] at hcA
        have k2 : (0 : Int) ≤ la'.length ∧ (la'.length : Int) ≤ ca := by omega
        have hownA4 := owns_below (owns_below hownA hb3) hb4
        have hownB4 := owns_below hownB hb4
        clear hownA hownB
        have NEWS := Lib.hid (tok_news hownA4)
        repeat (first | (at_builtin; refine wpList_append_own _ rfl _ _ 49 rfl w4.heap.size 53 i0 _ 7 64 Tryd.underlying49 iH iz is ib rfl (by decide) _ _ _ rfl (World.ownsRow_nil _ _ _ _) ⟨ga, 0, none⟩ la'.length _ (tokCells la') rfl (tokCells_len la') NEWS.out ?c2 ?c3 ?c4 ?c5 ?c6) | go_values | go_skip | go_guarded | go_step | go_upon)
        case c2 => exact tok_one la'
        case c3 => unfold maxLen; omega
        case c4 => omega
        case c5 => exact Nat.le_refl _
        case c6 =>
          intro v5 w5 hown5 hgr5 _
          have hb5 : Below w4.heap.size w4 w5 := below_grown (Below.refl _ _) hgr5 (fun k hk => by cases hk)
          have HT5 := Lib.hid hown5
          clear hown5 hgr5 NEWS
          repeat (first | go_values | go_skip | go_guarded | go_step | go_upon)
          go_loopw [12, 13] (fun v t wr => ∃ k : Nat, t = .int .i64 (k : Int) ∧ k ≤ lb.length ∧ wr.ownsRow w4.heap.size 53 7 v (la'.length + k) (tokCells (la' ++ (lb.take k).map (shTok ((bl S).length + 1)))) ∧ Below w4.heap.size w4 wr) (fun _ t _ => lb.length - (intOf t).toNat)
          case atStart => exact ⟨0, rfl, Nat.zero_le _, by simpa using HT5.out, hb5⟩
          case round =>
            obtain ⟨k, rfl, hk, hown, hb⟩ := hrel
            have oB := owns_below hownB4 hb
            rcases Nat.lt_or_ge k lb.length with hlt | hge
            · obtain ⟨p, hp⟩ : ∃ p, lb[k]? = some p := ⟨lb[k], List.getElem?_eq_getElem hlt⟩
              have hpp := lexed_pos HB.out p (List.mem_of_getElem? hp)
              obtain ⟨b0, b1, b2, b3, b4, b5, b6⟩ := tok_at oB rfl hp
              have k5 : IntKind.i64.wrap ((p.pos : Int) + (S.size : Int)) = (p.pos : Int) + (S.size : Int) := by rw [IntKind.wrap_i64]; omega
              have k6 : IntKind.i64.wrap ((p.pos : Int) + (S.size : Int) + 1) = (p.pos : Int) + (S.size : Int) + 1 := by rw [IntKind.wrap_i64]; omega
              have HO := Lib.hid hown
              have HN := Lib.hid (fun (o : Obj) => new_two wr o (.cells #[.int .i64 (p.kind : Int), .string (mkS p.text), .int .u64 (wd p.cls 0), .int .u64 (wd p.cls 1), .int .u64 (wd p.cls 2), .int .u64 (wd p.cls 3), .int .i64 ((p.pos : Int) + (S.size : Int) + 1)] 53))
              clear hown
              repeat (first | (at_builtin; refine wpList_append_own _ rfl _ _ 49 rfl w4.heap.size 53 i0 _ 7 64 Tryd.underlying49 iH iz is ib rfl (by decide) _ _ _ rfl ((HO.out.alloc _).alloc _) ⟨wr.heap.size + 1, 0, none⟩ 1 1 [.int .i64 (p.kind : Int), .string (mkS p.text), .int .u64 (wd p.cls 0), .int .u64 (wd p.cls 1), .int .u64 (wd p.cls 2), .int .u64 (wd p.cls 3), .int .i64 ((p.pos : Int) + (S.size : Int) + 1)] rfl rfl (World.news_of_block (cs := #[.int .i64 (p.kind : Int), .string (mkS p.text), .int .u64 (wd p.cls 0), .int .u64 (wd p.cls 1), .int .u64 (wd p.cls 2), .int .u64 (wd p.cls 3), .int .i64 ((p.pos : Int) + (S.size : Int) + 1)]) (t := 53) (fr := (0, 0)) (HN.out _)) ?c2 ?c3 ?c4 ?c5 ?c6) | go_values | go_skip | go_guarded | go_step | go_upon)
              case c2 => simp [Value.oneCell']
              case c3 => unfold maxLen; omega
              case c4 => omega
              case c5 => simp; have := hb.size; omega
              case c6 =>
                intro v6 w6 hown6 hgr6 _
                have hb6 : Below w4.heap.size w4 w6 := below_grown (bal (bal hb _) _) hgr6 (fun k hk => (HO.out.lt k hk).1)
                have HT6 := Lib.hid hown6
                clear hown6 hgr6
                repeat (first | go_values | go_skip | go_guarded | go_step | go_upon)
                refine ⟨⟨k + 1, by go_num, by omega, ?_, hb6⟩, by simp [intOf]; omega⟩
                exact join_step hp (by omega) HT6.out
            · obtain rfl : k = lb.length := by omega
              have hown1 := hown
              rw [List.take_length] at hown1
              have HF := Lib.hid hown1
              have HE := Lib.hid hownL
              clear hown1 hown hownL
              repeat (first | go_values | go_skip | go_guarded | go_step | go_upon)
              refine (tsame_any _ (la'.length + lb.length) _ _ _ _ _ (by omega) (by simp) (by have := HE.out; rw [List.length_append, List.length_map] at this; exact owns_below this hb) HF.out).mono ?_
              rintro e w7 ⟨rfl, hb7⟩
              dsimp only
              repeat (first | go_values | go_skip | go_guarded | go_step | go_upon)
              go_ret
              exact ⟨rfl, (by repeat (first | exact Below.refl _ _ | assumption | refine bal ?_ _ | refine bdr ?_ | refine bdrn ?_ _ | (refine bset ?_ (by first | exact Nat.le_refl _ | (simp; done) | (simp; omega) | omega) _) | refine bstep ?_ (by assumption)))⟩
      · have d3 : decide ((8192 : Int) < (S.size : Int) + T.size + 1) = true := by simp; omega
        go_enter Tryd.func7, Tryd.ntmps7
        repeat (first | go_values | go_skip | go_guarded | go_step | go_upon)
        refine (small3_any _ HL.out).mono ?_
        rintro e w1 ⟨rfl, hb1⟩
        obtain ⟨hc1, hf1⟩ := bcell hb1
        have hz1 := hb1.size
        try simp at hz1
        dsimp only
        repeat (first | go_values | go_skip | go_guarded | go_step | go_upon)
        refine (lexed_ok S _ (HL1.out _ (by repeat (first | exact Below.refl _ _ | assumption | refine bal ?_ _ | refine bdr ?_ | refine bdrn ?_ _ | (refine bset ?_ (by first | exact Nat.le_refl _ | (simp; done) | (simp; omega) | omega) _) | refine bstep ?_ (by assumption)))) HA.out).mono ?_
        rintro e w2 ⟨v, rfl, hown, hb2⟩
        obtain ⟨g, cap, hv, _⟩ := hown.form (by simp)
        subst hv
        clear hown
        dsimp only [List.length_append, List.length]
        repeat (first | go_values | go_skip | go_guarded | go_step | go_upon)
        refine (lexed_ok T _ (HL1.out _ (by repeat (first | exact Below.refl _ _ | assumption | refine bal ?_ _ | refine bdr ?_ | refine bdrn ?_ _ | (refine bset ?_ (by first | exact Nat.le_refl _ | (simp; done) | (simp; omega) | omega) _) | refine bstep ?_ (by assumption)))) HB.out).mono ?_
        rintro e w3 ⟨v3, rfl, _, hb3⟩
        dsimp only
        repeat (first | go_values | go_skip | go_guarded | go_step | go_upon)
        go_ret
        exact ⟨rfl, (by repeat (first | exact Below.refl _ _ | assumption | refine bal ?_ _ | refine bdr ?_ | refine bdrn ?_ _ | (refine bset ?_ (by first | exact Nat.le_refl _ | (simp; done) | (simp; omega) | omega) _) | refine bstep ?_ (by assumption)))⟩
end Go.Proofs.YtlohpplpnddfaaaDoor
