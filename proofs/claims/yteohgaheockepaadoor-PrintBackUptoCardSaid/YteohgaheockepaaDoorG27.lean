/- The tokens of two sources, one behind the other in lines of their own: plain. | Tokens with blanks between each two are the same ones: plain. -/
import Derived.Test.YteohgaheockepaaDoorG26
import Derived.Test.YteohgaheockepaaDoorG17
namespace Go.Proofs.YteohgaheockepaaDoor
open Go.RowKit

theorem byteAt_sh (p l : List UInt8) (a : Nat) : byteAt (p ++ l) (p.length + a) = byteAt l a := by
  unfold byteAt; rw [List.getElem?_append_right (by omega), Nat.add_sub_cancel_left]
theorem low_sh {p l : List UInt8} {h a c n : Nat} (e : lowAt l h a = .inr (c, n)) : lowAt (p ++ l) h (p.length + a) = .inr (c, p.length + n) := by
  unfold lowAt at *
  rw [byteAt_sh]
  split at e
  · cases e
  · next hd => rw [if_neg hd]; simp at e ⊢; omega
theorem hex_sh {p l : List UInt8} {a c n : Nat} (e : hexAt l a = .inr (c, n)) : hexAt (p ++ l) (p.length + a) = .inr (c, p.length + n) := by
  unfold hexAt at *
  rw [byteAt_sh]
  split at e
  · cases e
  · next hd => rw [if_neg hd]; exact low_sh e
theorem lesc_sh {p l : List UInt8} {a c n : Nat} (e : lescAt l a = .inr (c, n)) : lescAt (p ++ l) (p.length + a) = .inr (c, p.length + n) := by
  unfold lescAt at *
  rw [byteAt_sh]
  split at e
  · next h => rw [if_pos h]; simp at e ⊢; omega
  next g1 =>
  rw [if_neg g1]
  split at e
  · next h => rw [if_pos h]; simp at e ⊢; omega
  next g2 =>
  rw [if_neg g2]
  split at e
  · next h => rw [if_pos h]; simp at e ⊢; omega
  next g3 =>
  rw [if_neg g3]
  split at e
  · next h => rw [if_pos h]; simp at e ⊢; omega
  next g4 =>
  rw [if_neg g4]
  split at e
  · next h => rw [if_pos h]; exact hex_sh e
  · cases e
theorem lch_sh {p l : List UInt8} {a c n : Nat} (e : lchAt l a = .inr (c, n)) : lchAt (p ++ l) (p.length + a) = .inr (c, p.length + n) := by
  unfold lchAt at *
  rw [byteAt_sh]
  split at e
  · next h => rw [if_pos h]; exact lesc_sh e
  next g1 =>
  rw [if_neg g1]
  split at e
  · cases e
  · next h => rw [if_neg h]; simp at e ⊢; omega
theorem lit_sh {p l : List UInt8} {q st st' : Nat} : ∀ {f g a n : Nat} {acc m : List UInt8}, litGo l q st f a acc = .inr (m, n) → f ≤ g → litGo (p ++ l) q st' g (p.length + a) acc = .inr (m, p.length + n) := by
  intro f
  induction f with
  | zero => intro g a n acc m h; cases h
  | succ f ih =>
    intro g a n acc m h hg
    obtain ⟨g, rfl⟩ : ∃ j, g = j + 1 := ⟨g - 1, by omega⟩
    rw [litGo] at h ⊢
    split at h
    · cases h
    next hl =>
    rw [if_neg (by rw [List.length_append]; omega), byteAt_sh]
    split at h
    · next hq => rw [if_pos hq]; simp at h ⊢; exact ⟨h.1, by omega⟩
    next hq =>
    rw [if_neg hq]
    split at h
    · cases h
    next c k e =>
    rw [lch_sh e]
    simp only
    split at h
    · cases h
    · next h5 => rw [if_neg h5]; exact ih h (by omega)
theorem name_sh (p l : List UInt8) (a : Nat) : nameLen (p ++ l) (p.length + a) = nameLen l a := by
  have h := nameLen_spec l a
  apply nameLen_is
  · intro j hj
    rw [show p.length + a + j = p.length + (a + j) by omega, byteAt_sh]
    exact h.1 j hj
  · rw [show p.length + a + nameLen l a = p.length + (a + nameLen l a) by omega, byteAt_sh]
    exact h.2
/-- A token further on. -/
def shTok (k : Nat) (t : Tok) : Tok := ⟨t.kind, t.text, t.cls, k + t.pos⟩
theorem drop_sh (p l : List UInt8) (a : Nat) : (p ++ l).drop (p.length + a) = l.drop a := by
  rw [List.drop_append, List.drop_eq_nil_of_le (by omega), List.nil_append, Nat.add_sub_cancel_left]
theorem tok_sh {p l : List UInt8} {a n : Nat} {t : Tok} (e : tokAt l a = .inr (t, n)) : tokAt (p ++ l) (p.length + a) = .inr (shTok p.length t, p.length + n) := by
  unfold tokAt at *
  rw [name_sh, byteAt_sh, drop_sh, show p.length + a + 1 = p.length + (a + 1) by omega, byteAt_sh]
  split at e
  · cases e
  next g1 =>
  rw [if_neg g1]
  split at e
  · next h => rw [if_pos h]; simp at e ⊢; obtain ⟨e1, e2⟩ := e; subst e1; exact ⟨rfl, by omega⟩
  next g2 =>
  rw [if_neg g2]
  split at e
  · next h => rw [if_pos h]; simp at e ⊢; obtain ⟨e1, e2⟩ := e; subst e1; exact ⟨rfl, by omega⟩
  next g3 =>
  rw [if_neg g3]
  split at e
  · next h => rw [if_pos h]; simp at e ⊢; obtain ⟨e1, e2⟩ := e; subst e1; exact ⟨rfl, by omega⟩
  next g4 =>
  rw [if_neg g4]
  split at e
  · next h =>
    rw [if_pos h]
    split at e
    · cases e
    · next m k hl =>
      rw [lit_sh (st' := p.length + a) hl (by rw [List.length_append]; omega)]
      simp at e ⊢; obtain ⟨e1, e2⟩ := e; subst e1; exact ⟨rfl, by omega⟩
  next g5 =>
  rw [if_neg g5]
  split at e
  · next h =>
    rw [if_pos h]
    split at e
    · cases e
    · next c k hc => simp at e ⊢; obtain ⟨e1, e2⟩ := e; subst e1; exact ⟨rfl, by omega⟩
  · cases e
theorem note_sh (p l : List UInt8) (a : Nat) : noteEnd (p ++ l) (p.length + a) = p.length + noteEnd l a := by
  unfold noteEnd
  rw [drop_sh]
  split
  · omega
  · simp
theorem toks_front {s : List UInt8} : ∀ {f a : Nat} {l r : List Tok}, toksGo s f a l = .inr r → ∃ r', r = l ++ r' := by
  intro f
  induction f with
  | zero => intro a l r h; cases h
  | succ f ih =>
    intro a l r h
    rw [toksGo] at h
    split at h
    · exact ⟨_, (Sum.inr.inj h).symm⟩
    split at h
    · exact ih h
    split at h
    · exact ih h
    split at h
    · cases h
    · obtain ⟨r', hr⟩ := ih h
      exact ⟨_ :: r', by rw [hr, List.append_assoc]; rfl⟩
theorem toks_sh {p l : List UInt8} : ∀ {f g a : Nat} {acc acc' r : List Tok}, toksGo l f a acc = .inr (acc ++ r) → f ≤ g → toksGo (p ++ l) g (p.length + a) acc' = .inr (acc' ++ r.map (shTok p.length)) := by
  intro f
  induction f with
  | zero => intro g a acc acc' r h; cases h
  | succ f ih =>
    intro g a acc acc' r h hg
    obtain ⟨g, rfl⟩ : ∃ j, g = j + 1 := ⟨g - 1, by omega⟩
    rw [toksGo] at h ⊢
    rw [byteAt_sh, List.length_append]
    by_cases h1 : l.length ≤ a
    · rw [if_pos h1] at h
      rw [if_pos (by omega)]
      have e := List.append_cancel_left (Sum.inr.inj h)
      rw [← e]
      rfl
    rw [if_neg h1] at h
    rw [if_neg (by omega)]
    by_cases h2 : byteAt l a = 35
    · rw [if_pos h2] at h ⊢
      rw [note_sh]
      exact ih h (by omega)
    rw [if_neg h2] at h ⊢
    cases h3 : isBlank (byteAt l a)
    · rw [h3, if_neg (by decide)] at h
      rw [if_neg (by decide)]
      split at h
      · cases h
      · next t n e =>
        rw [tok_sh e]
        simp only
        obtain ⟨r', hr⟩ : ∃ r', r = t :: r' := by
          obtain ⟨r2, e2⟩ := toks_front h
          rw [List.append_assoc] at e2
          exact ⟨r2, List.append_cancel_left e2⟩
        subst hr
        have h' : toksGo l f n (acc ++ [t]) = .inr (acc ++ [t] ++ r') := by rw [h]; simp
        rw [ih (acc' := acc' ++ [shTok p.length t]) h' (by omega)]
        simp
    · rw [h3, if_pos rfl] at h
      rw [if_pos rfl, show p.length + a + 1 = p.length + (a + 1) by omega]
      exact ih h (by omega)
/-- The tokens of the first one, and behind them those of what follows. -/
theorem toks_go_ext {s x : List UInt8} : ∀ {f g a : Nat} {acc r : List Tok}, toksGo s f a acc = .inr r → a ≤ s.length → s.length + 2 * x.length + 4 ≤ g + a →
    ∃ r' g', r = r' ++ [⟨6, [], 0, s.length⟩] ∧ toksGo (s ++ 10 :: x) g a acc = toksGo (s ++ 10 :: x) g' s.length r' ∧ 2 * x.length + 4 ≤ g' := by
  intro f
  induction f with
  | zero => intro g a acc r h; cases h
  | succ f ih =>
    intro g a acc r h ha hg
    rw [toksGo] at h
    by_cases h1 : s.length ≤ a
    · rw [if_pos h1] at h
      obtain rfl : a = s.length := by omega
      exact ⟨acc, g, (Sum.inr.inj h).symm, rfl, by omega⟩
    rw [if_neg h1] at h
    obtain ⟨g, rfl⟩ : ∃ j, g = j + 1 := ⟨g - 1, by omega⟩
    rw [toksGo, if_neg (by rw [List.length_append]; omega), byteAt_ext (by omega)]
    by_cases h2 : byteAt s a = 35
    · rw [if_pos h2] at h ⊢
      have hb := noteEnd_bd (s := s) (a := a) (by omega) (by omega)
      rw [note_ext (by omega)]
      exact ih h (by omega) (by omega)
    rw [if_neg h2] at h ⊢
    cases h3 : isBlank (byteAt s a)
    · rw [h3, if_neg (by decide)] at h
      rw [if_neg (by decide)]
      split at h
      · cases h
      · next t n e =>
        have hb := tokAt_bd (by omega) e
        rw [tok_ext (by omega) e]
        exact ih h (by omega) (by omega)
    · rw [h3, if_pos rfl] at h
      rw [if_pos rfl]
      exact ih h (by omega) (by omega)
theorem toks_join {s x : List UInt8} {a b : List Tok} (ha : toks s = .inr a) (hb : toks x = .inr b) :
    ∃ a', a = a' ++ [⟨6, [], 0, s.length⟩] ∧ toks (s ++ 10 :: x) = .inr (a' ++ b.map (shTok (s.length + 1))) := by
  have hlen : (s ++ 10 :: x).length = s.length + 1 + x.length := by simp; omega
  obtain ⟨a', g', e1, e2, e3⟩ := toks_go_ext (x := x) (g := 2 * (s ++ 10 :: x).length + 2) ha (by omega) (by rw [hlen]; omega)
  refine ⟨a', e1, ?_⟩
  rw [toks, e2]
  obtain ⟨g', rfl⟩ : ∃ j, g' = j + 1 := ⟨g' - 1, by omega⟩
  have hb10 : byteAt (s ++ 10 :: x) s.length = 10 := by simp [byteAt]
  rw [toksGo, if_neg (by rw [hlen]; omega), hb10, if_neg (by decide), if_pos (by decide)]
  have h := toks_sh (p := s ++ [10]) (l := x) (f := 2 * x.length + 2) (g := g') (a := 0) (acc := []) (acc' := a') (r := b) (by simpa [toks] using hb) (by omega)
  simpa using h
theorem index_none {l : List UInt8} {c : UInt8} (h : ∀ b ∈ l, b ≠ c) : Lib.indexByte l c = -1 := by
  induction l with
  | nil => rfl
  | cons b l ih =>
    unfold Lib.indexByte
    have hb : ¬ (b == c) = true := by simpa using h b List.mem_cons_self
    rw [if_neg hb, ih (fun b hb => h b (List.mem_cons_of_mem _ hb))]
    rfl
/-- A note at the end changes nothing but where the end is. -/
theorem toks_notes {s note : List UInt8} {a : List Tok} (ha : toks s = .inr a) (hn : ∀ b ∈ note, b ≠ 10) :
    ∃ a', a = a' ++ [⟨6, [], 0, s.length⟩] ∧ toks (s ++ 10 :: 35 :: note) = .inr (a' ++ [⟨6, [], 0, (s ++ 10 :: 35 :: note).length⟩]) := by
  have hlen : (s ++ 10 :: 35 :: note).length = s.length + 2 + note.length := by simp; omega
  obtain ⟨a', g', e1, e2, e3⟩ := toks_go_ext (x := 35 :: note) (g := 2 * (s ++ 10 :: 35 :: note).length + 2) ha (by omega) (by rw [hlen]; simp; omega)
  refine ⟨a', e1, ?_⟩
  rw [toks, e2]
  obtain ⟨g', rfl⟩ : ∃ j, g' = j + 3 := ⟨g' - 3, by omega⟩
  have hb10 : byteAt (s ++ 10 :: 35 :: note) s.length = 10 := by simp [byteAt]
  have hb35 : byteAt (s ++ 10 :: 35 :: note) (s.length + 1) = 35 := by
    rw [byteAt_sh]; rfl
  have hne : noteEnd (s ++ 10 :: 35 :: note) (s.length + 1) = (s ++ 10 :: 35 :: note).length := by
    unfold noteEnd
    rw [drop_sh]
    have : Lib.indexByte (List.drop 1 (10 :: 35 :: note)) 10 = -1 := index_none (by
      intro b hb
      simp at hb
      rcases hb with rfl | hb
      · decide
      · exact hn b hb)
    rw [this, if_neg (by decide)]
  rw [toksGo, if_neg (by rw [hlen]; omega), hb10, if_neg (by decide), if_pos (by decide), toksGo, if_neg (by rw [hlen]; omega), hb35, if_pos rfl, hne, toksGo, if_pos (Nat.le_refl _)]
end Go.Proofs.YteohgaheockepaaDoor
namespace Go.Proofs.YteohgaheockepaaDoor
open Go.RowKit

/-- Behind these bytes: are we in a note (or none: they are no blanks)? -/
def skipB : Bool → List UInt8 → Option Bool
  | n, [] => some n
  | true, b :: l => skipB (b.toNat != 10) l
  | false, b :: l => if b.toNat = 35 then skipB true l else if isBlank b.toNat then skipB false l else none
theorem skip_app : ∀ (u v : List UInt8) (n : Bool), skipB n (u ++ v) = (skipB n u).bind fun k => skipB k v := by
  intro u
  induction u with
  | nil => intro v n; cases n <;> rfl
  | cons b u ih =>
    intro v n
    rw [List.cons_append]
    cases n
    · rw [skipB, skipB]
      split
      · exact ih v true
      split
      · exact ih v false
      · rfl
    · rw [skipB, skipB]
      exact ih v _
theorem skip_note {u : List UInt8} (h : ∀ b ∈ u, b ≠ 10) : skipB true u = some true := by
  induction u with
  | nil => rfl
  | cons b u ih =>
    have hb : b ≠ 10 := h b List.mem_cons_self
    have : (b.toNat != 10) = true := by
      simp
      intro e
      exact hb (UInt8.toNat_inj.1 e)
    rw [skipB, this]
    exact ih (fun c hc => h c (List.mem_cons_of_mem _ hc))
theorem skip_split : ∀ {v : List UInt8}, skipB true v = some false → ∃ v1 v2, v = v1 ++ 10 :: v2 ∧ (∀ b ∈ v1, b ≠ 10) ∧ skipB false v2 = some false := by
  intro v
  induction v with
  | nil => intro h; cases h
  | cons b v ih =>
    intro h
    by_cases hb : b = 10
    · subst hb
      refine ⟨[], v, rfl, (fun b hb => by cases hb), ?_⟩
      simpa [skipB] using h
    · have : (b.toNat != 10) = true := by
        simp
        intro e
        exact hb (UInt8.toNat_inj.1 e)
      rw [skipB, this] at h
      obtain ⟨v1, v2, e1, e2, e3⟩ := ih h
      refine ⟨b :: v1, v2, by rw [e1]; rfl, ?_, e3⟩
      intro c hc
      rcases List.mem_cons.1 hc with rfl | hc
      · exact hb
      · exact e2 c hc
theorem drop_next {t u : List UInt8} {q : Nat} {b : UInt8} (h : t.drop q = b :: u) : t.drop (q + 1) = u := by
  have := congrArg (List.drop 1) h
  simpa [List.drop_drop] using this
theorem drop_in {t u : List UInt8} {q : Nat} {b : UInt8} (h : t.drop q = b :: u) : q < t.length ∧ byteAt t q = b.toNat := by
  have hl := congrArg List.length h
  simp at hl
  refine ⟨by omega, ?_⟩
  have := drop_byte t q 0
  rw [h, Nat.add_zero] at this
  rw [← this]
  rfl
theorem drop_more {t u v : List UInt8} {q : Nat} (h : t.drop q = u ++ v) : t.drop (q + u.length) = v := by
  have := congrArg (List.drop u.length) h
  simpa [List.drop_drop] using this
theorem note_here {t v1 w : List UInt8} {q : Nat} (h : t.drop q = 35 :: (v1 ++ 10 :: w)) (hn : ∀ b ∈ v1, b ≠ 10) : noteEnd t q = q + (v1.length + 1) := by
  unfold noteEnd
  have : Lib.indexByte (t.drop q) 10 = ((v1.length + 1 : Nat) : Int) := by
    rw [h, ← List.cons_append]
    have := index_end (y := w) (index_none (l := 35 :: v1) (c := 10) (by
      intro b hb
      rcases List.mem_cons.1 hb with rfl | hb
      · decide
      · exact hn b hb))
    rw [this]
    rfl
  rw [this, if_pos (by omega)]
  rfl
/-- Blanks are passed. -/
theorem skip_run {t : List UInt8} {acc : List Tok} : ∀ (k : Nat) (u : List UInt8) (f q : Nat) (r : List UInt8), u.length ≤ k → t.drop q = u ++ r → skipB false u = some false → u.length ≤ f →
    ∃ f', f ≤ f' + u.length ∧ toksGo t f q acc = toksGo t f' (q + u.length) acc := by
  intro k
  induction k with
  | zero =>
    intro u f q r hk h hs hf
    obtain rfl : u = [] := List.eq_nil_of_length_eq_zero (by omega)
    exact ⟨f, by simp, by simp⟩
  | succ k ih =>
    intro u f q r hk h hs hf
    cases u with
    | nil => exact ⟨f, by simp, by simp⟩
    | cons b v =>
      simp at hf hk
      obtain ⟨f, rfl⟩ : ∃ g, f = g + 1 := ⟨f - 1, by omega⟩
      have hq := drop_in (show t.drop q = b :: (v ++ r) from h)
      rw [skipB] at hs
      split at hs
      · next h35 =>
        obtain ⟨v1, v2, e1, e2, e3⟩ := skip_split hs
        subst e1
        have hb : b = 35 := UInt8.toNat_inj.1 h35
        subst hb
        simp at hf hk
        obtain ⟨f, rfl⟩ : ∃ g, f = g + 1 := ⟨f - 1, by omega⟩
        have h2 : t.drop q = 35 :: (v1 ++ 10 :: (v2 ++ r)) := by rw [h]; simp
        have hd : t.drop (q + (v1.length + 1)) = 10 :: (v2 ++ r) := drop_more (u := 35 :: v1) (by rw [h2]; rfl)
        have hq2 := drop_in hd
        have hd2 := drop_next hd
        obtain ⟨f', g1, g2⟩ := ih v2 f (q + (v1.length + 1) + 1) r (by omega) hd2 e3 (by omega)
        refine ⟨f', by simp; omega, ?_⟩
        rw [toks_note hq.1 (by rw [hq.2]; exact h35), note_here h2 e2, toks_blank hq2.1 (by rw [hq2.2]; decide) (by rw [hq2.2]; rfl), g2]
        congr 1
        simp
        omega
      · next h35 =>
        split at hs
        · next hb =>
          obtain ⟨f', g1, g2⟩ := ih v f (q + 1) r (by omega) (drop_next h) hs (by omega)
          refine ⟨f', by simp; omega, ?_⟩
          rw [toks_blank hq.1 (by rw [hq.2]; exact h35) (by rw [hq.2]; exact hb), g2]
          congr 1
          simp
          omega
        · cases hs
/-- The bytes of s from a up to b. -/
def cutS (s : List UInt8) (a b : Nat) : List UInt8 := (s.drop a).take (b - a)
theorem cutS_len {s : List UInt8} {a b : Nat} (hb : b ≤ s.length) : (cutS s a b).length = b - a := by simp [cutS]; omega
theorem cutS_app {s : List UInt8} {a b c : Nat} (h1 : a ≤ b) (h2 : b ≤ c) : cutS s a c = cutS s a b ++ cutS s b c := by
  unfold cutS
  have e : c - a = (b - a) + (c - b) := by omega
  have e2 : s.drop b = (s.drop a).drop (b - a) := by rw [List.drop_drop]; congr 1; omega
  rw [e, e2, List.take_add]
theorem cutS_self (s : List UInt8) (a : Nat) : cutS s a a = [] := by simp [cutS]
theorem cutS_one {s : List UInt8} {a : Nat} (h : a < s.length) : cutS s a (a + 1) = [s[a]] := by
  unfold cutS
  rw [Nat.add_sub_cancel_left, List.drop_eq_getElem_cons h]
  rfl
theorem cutS_head {s : List UInt8} {a b : Nat} (h : a < b) (hb : b ≤ s.length) : cutS s a b = s[a] :: cutS s (a + 1) b := by
  rw [cutS_app (b := a + 1) (by omega) (by omega), cutS_one (by omega)]
  rfl
/-- The tokens of a source, each with the blanks behind it. -/
inductive Cuts (s : List UInt8) : Nat → List Tok → Prop
  | last : Cuts s s.length []
  | tok {a n b : Nat} {t : Tok} {nt : Bool} {l : List Tok} : a < s.length → tokAt s a = .inr (t, n) → byteAt s a ≠ 35 → isBlank (byteAt s a) = false → n ≤ b → b ≤ s.length →
      skipB false (cutS s n b) = some nt → (b < s.length → nt = false) → Cuts s b l → Cuts s a (t :: l)
theorem Cuts.notBlank {s : List UInt8} {b : Nat} {l : List Tok} (h : Cuts s b l) (hb : b < s.length) : isBlank (byteAt s b) = false := by
  cases h with
  | last => omega
  | tok _ _ _ h => exact h
theorem note_cut {s : List UInt8} {a : Nat} (ha : a < s.length) (h : byteAt s a = 35) : skipB false (cutS s a (noteEnd s a)) = some true ∧ (noteEnd s a < s.length → byteAt s (noteEnd s a) = 10) := by
  have hbd := noteEnd_bd ha (by omega)
  have h35 : s[a].toNat = 35 := by rw [← byteAt_lt ha]; exact h
  have key : ∀ b ∈ cutS s a (noteEnd s a), b ≠ 10 := by
    unfold noteEnd
    split
    · next h0 =>
      obtain ⟨n, hn⟩ := Int.eq_ofNat_of_zero_le h0
      rw [hn]
      have h1 := (indexByte_some hn).2
      intro b hb
      unfold cutS at hb
      simp at hb
      obtain ⟨i, hi, he⟩ := List.mem_take_iff_getElem.1 hb
      intro e
      refine h1 i (by omega) ?_
      rw [List.getElem?_eq_getElem (by omega), he, e]
    · next h0 =>
      have hm : Lib.indexByte (s.drop a) 10 = -1 := by have := Lib.indexByte_ge (s.drop a) 10; omega
      have h1 := indexByte_none hm
      intro b hb
      unfold cutS at hb
      obtain ⟨i, hi, he⟩ := List.mem_take_iff_getElem.1 hb
      intro e
      refine h1 i ?_
      rw [List.getElem?_eq_getElem (by omega), he, e]
  constructor
  · rw [cutS_head hbd.1 hbd.2] at key ⊢
    rw [skipB, if_pos h35]
    exact skip_note (fun b hb => key b (List.mem_cons_of_mem _ hb))
  · intro hlt
    unfold noteEnd at hlt ⊢
    split at hlt
    · next h0 =>
      rw [if_pos h0]
      obtain ⟨n, hn⟩ := Int.eq_ofNat_of_zero_le h0
      rw [hn]
      have h1 := (indexByte_some hn).1
      rw [← drop_byte]
      simp [byteAt, h1]
    · omega
theorem cuts_of {s : List UInt8} : ∀ {f a : Nat} {acc r : List Tok}, toksGo s f a acc = .inr r → a ≤ s.length →
    ∃ b nt l, a ≤ b ∧ b ≤ s.length ∧ skipB false (cutS s a b) = some nt ∧ (b < s.length → nt = false) ∧ Cuts s b l ∧ r = acc ++ l ++ [⟨6, [], 0, s.length⟩] := by
  intro f
  induction f with
  | zero => intro a acc r h; cases h
  | succ f ih =>
    intro a acc r h ha
    rw [toksGo] at h
    split at h
    · obtain rfl : a = s.length := by omega
      have e := Sum.inr.inj h
      subst e
      exact ⟨s.length, false, [], Nat.le_refl _, Nat.le_refl _, by rw [cutS_self]; rfl, fun _ => rfl, .last, by simp⟩
    next hlt =>
    split at h
    · next h35 =>
      have hbd := noteEnd_bd (s := s) (a := a) (by omega) (by omega)
      obtain ⟨c1, c2⟩ := note_cut (by omega) h35
      obtain ⟨b, nt, l, h1, h2, h3, h4, h5, h6⟩ := ih h hbd.2
      rcases Nat.lt_or_ge (noteEnd s a) b with hb | hb
      · refine ⟨b, nt, l, by omega, h2, ?_, h4, h5, h6⟩
        rw [cutS_app (b := noteEnd s a) (by omega) h1, skip_app, c1]
        have hm : s[noteEnd s a].toNat = 10 := by rw [← byteAt_lt]; exact c2 (by omega)
        rw [cutS_head hb h2] at h3 ⊢
        rw [skipB, hm, if_neg (by decide), if_pos (by decide)] at h3
        simp only [Option.bind, skipB]
        rw [hm]
        exact h3
      · obtain rfl : b = noteEnd s a := by omega
        rcases Nat.lt_or_ge (noteEnd s a) s.length with hl | hl
        · exfalso
          have h10 := c2 hl
          have := h5.notBlank hl
          rw [h10] at this
          cases this
        · exact ⟨noteEnd s a, true, l, by omega, h2, c1, fun hh => by omega, h5, h6⟩
    next h35 =>
    split at h
    · next hb =>
      obtain ⟨b, nt, l, h1, h2, h3, h4, h5, h6⟩ := ih h (by omega)
      refine ⟨b, nt, l, by omega, h2, ?_, h4, h5, h6⟩
      have hx : byteAt s a = s[a].toNat := byteAt_lt (by omega)
      rw [cutS_head (by omega) h2, skipB, if_neg (by rw [← hx]; exact h35), if_pos (by rw [← hx]; exact hb)]
      exact h3
    next hb =>
    split at h
    · cases h
    next t n e =>
    have bd := tokAt_bd (by omega) e
    obtain ⟨b, nt, l, h1, h2, h3, h4, h5, h6⟩ := ih h bd.2.1
    refine ⟨a, false, t :: l, Nat.le_refl _, ha, by rw [cutS_self]; rfl, fun _ => rfl, .tok (by omega) e h35 (by simpa using hb) h1 h2 h3 h4 h5, by rw [h6]; simp⟩
/-- Where the next token stands. -/
def nextPos (s : List UInt8) : List Tok → Nat
  | [] => s.length
  | t :: _ => t.pos
theorem Cuts.pos {s : List UInt8} {a : Nat} {l : List Tok} (h : Cuts s a l) : nextPos s l = a := by
  cases h with
  | last => rfl
  | tok h1 h2 => exact (tokAt_bd h1 h2).2.2
/-- The pieces, with something between each two and at the end. -/
def glue (s : List UInt8) (sep : Nat → List UInt8) : Nat → List Tok → List UInt8
  | _, [] => []
  | i, t :: l => cutS s t.pos (nextPos s l) ++ sep i ++ glue s sep (i + 1) l
/-- Blanks in a line of their own. -/
def Sep (u : List UInt8) : Prop := ∃ v, u = 10 :: v ∧ skipB false v = some false
theorem Sep.skip {u : List UInt8} (h : Sep u) (n : Bool) : skipB n u = some false := by
  obtain ⟨v, rfl, hv⟩ := h
  cases n
  · rw [skipB, if_neg (by decide), if_pos (by decide)]; exact hv
  · rw [skipB]; exact hv
def core (t : Tok) : Nat × List UInt8 × BitVec 256 := (t.kind, t.text, t.cls)
theorem blank_cont {b : Nat} (n : Nat) (h : b = 35 ∨ isBlank b = true) : cont n b = false := by
  rcases h with rfl | h
  · simp [cont, isLet, isDig]
  · simp [isBlank] at h
    rcases h with ((rfl | rfl) | rfl) | rfl <;> simp [cont, isLet, isDig]
theorem glue_toks {s : List UInt8} {sep : Nat → List UInt8} (hsep : ∀ i, Sep (sep i)) {a : Nat} {l : List Tok} (h : Cuts s a l) : ∀ (t : List UInt8) (i f q : Nat) (acc : List Tok), t.drop q = glue s sep i l → q ≤ t.length → t.length < f + q →
    ∃ r, toksGo t f q acc = .inr (acc ++ r ++ [⟨6, [], 0, t.length⟩]) ∧ r.map core = l.map core := by
  induction h with
  | last =>
    intro t i f q acc hd hq hf
    rw [glue] at hd
    have hl := congrArg List.length hd
    simp at hl
    obtain ⟨f, rfl⟩ : ∃ g, f = g + 1 := ⟨f - 1, by omega⟩
    exact ⟨[], by rw [toks_end (by omega)]; simp, rfl⟩
  | @tok a n b t0 nt l ha e h35 hbl hnb hb hs hnt hc ih =>
    intro t i f q acc hd hqt hf
    have bd := tokAt_bd ha e
    rw [glue, hc.pos, bd.2.2] at hd
    have hcl := cutS_len (s := s) (a := a) hb
    have hlen := congrArg List.length hd
    simp only [List.length_append, List.length_drop, hcl] at hlen
    obtain ⟨v, hv, _⟩ := hsep i
    have hsl : 1 ≤ (sep i).length := by rw [hv]; simp
    have hag : Agr s t a q b := by
      intro j hj
      rw [← drop_byte, hd, List.append_assoc]
      unfold byteAt
      rw [List.getElem?_append_left (by omega)]
      unfold cutS
      rw [List.getElem?_take, if_pos (by omega), List.getElem?_drop]
    have hq : q < t.length := by omega
    obtain ⟨f, rfl⟩ : ∃ g, f = g + 1 := ⟨f - 1, by omega⟩
    have hd2 : t.drop (q + (n - a)) = (cutS s n b ++ sep i) ++ glue s sep (i + 1) l := by
      rw [cutS_app (b := n) (by omega) hnb, List.append_assoc, List.append_assoc] at hd
      have := drop_more hd
      rw [cutS_len bd.2.1] at this
      rw [this, List.append_assoc]
    have hsk : skipB false (cutS s n b ++ sep i) = some false := by rw [skip_app, hs]; exact (hsep i).skip nt
    have htok := tok_agr ha e (hag.mono hnb) (by
      intro _
      unfold Ends
      apply blank_cont
      rcases Nat.lt_or_ge n b with hlt | hge
      · rw [cutS_head hlt hb, skipB] at hs
        have hx := hag (n - a) (by omega)
        rw [show a + (n - a) = n by omega] at hx
        rw [hx, byteAt_lt (show n < s.length by omega)]
        split at hs
        · next h => exact .inl h
        split at hs
        · next h => exact .inr h
        · cases hs
      · obtain rfl : n = b := by omega
        rw [cutS_self, List.nil_append, hv] at hd2
        rw [(drop_in hd2).2]
        exact .inr rfl)
    have hlc : (cutS s n b ++ sep i).length = (b - n) + (sep i).length := by rw [List.length_append, cutS_len hb]
    obtain ⟨f', g1, g2⟩ := skip_run (acc := acc ++ [⟨t0.kind, t0.text, t0.cls, q⟩]) _ (cutS s n b ++ sep i) f (q + (n - a)) (glue s sep (i + 1) l) (Nat.le_refl _) hd2 hsk (by omega)
    obtain ⟨r, r1, r2⟩ := ih t (i + 1) f' (q + (n - a) + (cutS s n b ++ sep i).length) (acc ++ [⟨t0.kind, t0.text, t0.cls, q⟩]) (drop_more hd2) (by omega) (by omega)
    refine ⟨⟨t0.kind, t0.text, t0.cls, q⟩ :: r, ?_, by rw [List.map_cons, List.map_cons, r2]; rfl⟩
    rw [toks_on hq (by rw [hag.here (by omega)]; exact h35) (by rw [hag.here (by omega)]; exact hbl) htok, g2, r1]
    simp
end Go.Proofs.YteohgaheockepaaDoor
