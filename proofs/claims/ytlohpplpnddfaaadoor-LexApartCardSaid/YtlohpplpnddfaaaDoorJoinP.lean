/- The tokens of two sources, one behind the other in lines of their own: plain. -/
import Derived.Test.YtlohpplpnddfaaaDoorExtP
namespace Go.Proofs.YtlohpplpnddfaaaDoor
open Go.RowKit

theorem byteAt_sh (p l : List UInt8) (a : Nat) : byteAt (p ++ l) (p.length + a) = byteAt l a := by
  unfold byteAt; rw [List.getElem?_append_right (by omega), Nat.add_sub_cancel_left]
theorem low_sh {p l : List UInt8} {h a c n : Nat} (e : lowAt l h a = .inr (c, n)) : lowAt (p ++ l) h (p.length + a) = .inr (c, p.length + n) := by
  unfold lowAt at *
  rw [byteAt_sh]
  split at e
  · cases e
  · next hd => rw [if_neg hd]; simp at e ⊢; omega
theorem hex_sh {p l : List UInt8} {a c n : Nat} (e : hexAt l a = .inr (c, n)) : hexAt (p ++ l) (p.length + a) = .inr (c, p.length + n) := by
  unfold hexAt at *
  rw [byteAt_sh]
  split at e
  · cases e
  · next hd => rw [if_neg hd]; exact low_sh e
theorem lesc_sh {p l : List UInt8} {a c n : Nat} (e : lescAt l a = .inr (c, n)) : lescAt (p ++ l) (p.length + a) = .inr (c, p.length + n) := by
  unfold lescAt at *
  rw [byteAt_sh]
  split at e
  · next h => rw [if_pos h]; simp at e ⊢; omega
  next g1 =>
  rw [if_neg g1]
  split at e
  · next h => rw [if_pos h]; simp at e ⊢; omega
  next g2 =>
  rw [if_neg g2]
  split at e
  · next h => rw [if_pos h]; simp at e ⊢; omega
  next g3 =>
  rw [if_neg g3]
  split at e
  · next h => rw [if_pos h]; simp at e ⊢; omega
  next g4 =>
  rw [if_neg g4]
  split at e
  · next h => rw [if_pos h]; exact hex_sh e
  · cases e
theorem lch_sh {p l : List UInt8} {a c n : Nat} (e : lchAt l a = .inr (c, n)) : lchAt (p ++ l) (p.length + a) = .inr (c, p.length + n) := by
  unfold lchAt at *
  rw [byteAt_sh]
  split at e
  · next h => rw [if_pos h]; exact lesc_sh e
  next g1 =>
  rw [if_neg g1]
  split at e
  · cases e
  · next h => rw [if_neg h]; simp at e ⊢; omega
theorem lit_sh {p l : List UInt8} {q st st' : Nat} : ∀ {f g a n : Nat} {acc m : List UInt8}, litGo l q st f a acc = .inr (m, n) → f ≤ g → litGo (p ++ l) q st' g (p.length + a) acc = .inr (m, p.length + n) := by
  intro f
  induction f with
  | zero => intro g a n acc m h; cases h
  | succ f ih =>
    intro g a n acc m h hg
    obtain ⟨g, rfl⟩ : ∃ j, g = j + 1 := ⟨g - 1, by omega⟩
    rw [litGo] at h ⊢
    split at h
    · cases h
    next hl =>
    rw [if_neg (by rw [List.length_append]; omega), byteAt_sh]
    split at h
    · next hq => rw [if_pos hq]; simp at h ⊢; exact ⟨h.1, by omega⟩
    next hq =>
    rw [if_neg hq]
    split at h
    · cases h
    next c k e =>
    rw [lch_sh e]
    simp only
    split at h
    · cases h
    · next h5 => rw [if_neg h5]; exact ih h (by omega)
theorem name_sh (p l : List UInt8) (a : Nat) : nameLen (p ++ l) (p.length + a) = nameLen l a := by
  have h := nameLen_spec l a
  apply nameLen_is
  · intro j hj
    rw [show p.length + a + j = p.length + (a + j) by omega, byteAt_sh]
    exact h.1 j hj
  · rw [show p.length + a + nameLen l a = p.length + (a + nameLen l a) by omega, byteAt_sh]
    exact h.2
/-- A token further on. -/
def shTok (k : Nat) (t : Tok) : Tok := ⟨t.kind, t.text, t.cls, k + t.pos⟩
theorem drop_sh (p l : List UInt8) (a : Nat) : (p ++ l).drop (p.length + a) = l.drop a := by
  rw [List.drop_append, List.drop_eq_nil_of_le (by omega), List.nil_append, Nat.add_sub_cancel_left]
theorem tok_sh {p l : List UInt8} {a n : Nat} {t : Tok} (e : tokAt l a = .inr (t, n)) : tokAt (p ++ l) (p.length + a) = .inr (shTok p.length t, p.length + n) := by
  unfold tokAt at *
  rw [name_sh, byteAt_sh, drop_sh, show p.length + a + 1 = p.length + (a + 1) by omega, byteAt_sh]
  split at e
  · cases e
  next g1 =>
  rw [if_neg g1]
  split at e
  · next h => rw [if_pos h]; simp at e ⊢; obtain ⟨e1, e2⟩ := e; subst e1; exact ⟨rfl, by omega⟩
  next g2 =>
  rw [if_neg g2]
  split at e
  · next h => rw [if_pos h]; simp at e ⊢; obtain ⟨e1, e2⟩ := e; subst e1; exact ⟨rfl, by omega⟩
  next g3 =>
  rw [if_neg g3]
  split at e
  · next h => rw [if_pos h]; simp at e ⊢; obtain ⟨e1, e2⟩ := e; subst e1; exact ⟨rfl, by omega⟩
  next g4 =>
  rw [if_neg g4]
  split at e
  · next h =>
    rw [if_pos h]
    split at e
    · cases e
    · next m k hl =>
      rw [lit_sh (st' := p.length + a) hl (by rw [List.length_append]; omega)]
      simp at e ⊢; obtain ⟨e1, e2⟩ := e; subst e1; exact ⟨rfl, by omega⟩
  next g5 =>
  rw [if_neg g5]
  split at e
  · next h =>
    rw [if_pos h]
    split at e
    · cases e
    · next c k hc => simp at e ⊢; obtain ⟨e1, e2⟩ := e; subst e1; exact ⟨rfl, by omega⟩
  · cases e
theorem note_sh (p l : List UInt8) (a : Nat) : noteEnd (p ++ l) (p.length + a) = p.length + noteEnd l a := by
  unfold noteEnd
  rw [drop_sh]
  split
  · omega
  · simp
theorem toks_front {s : List UInt8} : ∀ {f a : Nat} {l r : List Tok}, toksGo s f a l = .inr r → ∃ r', r = l ++ r' := by
  intro f
  induction f with
  | zero => intro a l r h; cases h
  | succ f ih =>
    intro a l r h
    rw [toksGo] at h
    split at h
    · exact ⟨_, (Sum.inr.inj h).symm⟩
    split at h
    · exact ih h
    split at h
    · exact ih h
    split at h
    · cases h
    · obtain ⟨r', hr⟩ := ih h
      exact ⟨_ :: r', by rw [hr, List.append_assoc]; rfl⟩
theorem toks_sh {p l : List UInt8} : ∀ {f g a : Nat} {acc acc' r : List Tok}, toksGo l f a acc = .inr (acc ++ r) → f ≤ g → toksGo (p ++ l) g (p.length + a) acc' = .inr (acc' ++ r.map (shTok p.length)) := by
  intro f
  induction f with
  | zero => intro g a acc acc' r h; cases h
  | succ f ih =>
    intro g a acc acc' r h hg
    obtain ⟨g, rfl⟩ : ∃ j, g = j + 1 := ⟨g - 1, by omega⟩
    rw [toksGo] at h ⊢
    rw [byteAt_sh, List.length_append]
    by_cases h1 : l.length ≤ a
    · rw [if_pos h1] at h
      rw [if_pos (by omega)]
      have e := List.append_cancel_left (Sum.inr.inj h)
      rw [← e]
      rfl
    rw [if_neg h1] at h
    rw [if_neg (by omega)]
    by_cases h2 : byteAt l a = 35
    · rw [if_pos h2] at h ⊢
      rw [note_sh]
      exact ih h (by omega)
    rw [if_neg h2] at h ⊢
    cases h3 : isBlank (byteAt l a)
    · rw [h3, if_neg (by decide)] at h
      rw [if_neg (by decide)]
      split at h
      · cases h
      · next t n e =>
        rw [tok_sh e]
        simp only
        obtain ⟨r', hr⟩ : ∃ r', r = t :: r' := by
          obtain ⟨r2, e2⟩ := toks_front h
          rw [List.append_assoc] at e2
          exact ⟨r2, List.append_cancel_left e2⟩
        subst hr
        have h' : toksGo l f n (acc ++ [t]) = .inr (acc ++ [t] ++ r') := by rw [h]; simp
        rw [ih (acc' := acc' ++ [shTok p.length t]) h' (by omega)]
        simp
    · rw [h3, if_pos rfl] at h
      rw [if_pos rfl, show p.length + a + 1 = p.length + (a + 1) by omega]
      exact ih h (by omega)
/-- The tokens of the first one, and behind them those of what follows. -/
theorem toks_go_ext {s x : List UInt8} : ∀ {f g a : Nat} {acc r : List Tok}, toksGo s f a acc = .inr r → a ≤ s.length → s.length + 2 * x.length + 4 ≤ g + a →
    ∃ r' g', r = r' ++ [⟨6, [], 0, s.length⟩] ∧ toksGo (s ++ 10 :: x) g a acc = toksGo (s ++ 10 :: x) g' s.length r' ∧ 2 * x.length + 4 ≤ g' := by
  intro f
  induction f with
  | zero => intro g a acc r h; cases h
  | succ f ih =>
    intro g a acc r h ha hg
    rw [toksGo] at h
    by_cases h1 : s.length ≤ a
    · rw [if_pos h1] at h
      obtain rfl : a = s.length := by omega
      exact ⟨acc, g, (Sum.inr.inj h).symm, rfl, by omega⟩
    rw [if_neg h1] at h
    obtain ⟨g, rfl⟩ : ∃ j, g = j + 1 := ⟨g - 1, by omega⟩
    rw [toksGo, if_neg (by rw [List.length_append]; omega), byteAt_ext (by omega)]
    by_cases h2 : byteAt s a = 35
    · rw [if_pos h2] at h ⊢
      have hb := noteEnd_bd (s := s) (a := a) (by omega) (by omega)
      rw [note_ext (by omega)]
      exact ih h (by omega) (by omega)
    rw [if_neg h2] at h ⊢
    cases h3 : isBlank (byteAt s a)
    · rw [h3, if_neg (by decide)] at h
      rw [if_neg (by decide)]
      split at h
      · cases h
      · next t n e =>
        have hb := tokAt_bd (by omega) e
        rw [tok_ext (by omega) e]
        exact ih h (by omega) (by omega)
    · rw [h3, if_pos rfl] at h
      rw [if_pos rfl]
      exact ih h (by omega) (by omega)
theorem toks_join {s x : List UInt8} {a b : List Tok} (ha : toks s = .inr a) (hb : toks x = .inr b) :
    ∃ a', a = a' ++ [⟨6, [], 0, s.length⟩] ∧ toks (s ++ 10 :: x) = .inr (a' ++ b.map (shTok (s.length + 1))) := by
  have hlen : (s ++ 10 :: x).length = s.length + 1 + x.length := by simp; omega
  obtain ⟨a', g', e1, e2, e3⟩ := toks_go_ext (x := x) (g := 2 * (s ++ 10 :: x).length + 2) ha (by omega) (by rw [hlen]; omega)
  refine ⟨a', e1, ?_⟩
  rw [toks, e2]
  obtain ⟨g', rfl⟩ : ∃ j, g' = j + 1 := ⟨g' - 1, by omega⟩
  have hb10 : byteAt (s ++ 10 :: x) s.length = 10 := by simp [byteAt]
  rw [toksGo, if_neg (by rw [hlen]; omega), hb10, if_neg (by decide), if_pos (by decide)]
  have h := toks_sh (p := s ++ [10]) (l := x) (f := 2 * x.length + 2) (g := g') (a := 0) (acc := []) (acc' := a') (r := b) (by simpa [toks] using hb) (by omega)
  simpa using h
theorem index_none {l : List UInt8} {c : UInt8} (h : ∀ b ∈ l, b ≠ c) : Lib.indexByte l c = -1 := by
  induction l with
  | nil => rfl
  | cons b l ih =>
    unfold Lib.indexByte
    have hb : ¬ (b == c) = true := by simpa using h b List.mem_cons_self
    rw [if_neg hb, ih (fun b hb => h b (List.mem_cons_of_mem _ hb))]
    rfl
/-- A note at the end changes nothing but where the end is. -/
theorem toks_notes {s note : List UInt8} {a : List Tok} (ha : toks s = .inr a) (hn : ∀ b ∈ note, b ≠ 10) :
    ∃ a', a = a' ++ [⟨6, [], 0, s.length⟩] ∧ toks (s ++ 10 :: 35 :: note) = .inr (a' ++ [⟨6, [], 0, (s ++ 10 :: 35 :: note).length⟩]) := by
  have hlen : (s ++ 10 :: 35 :: note).length = s.length + 2 + note.length := by simp; omega
  obtain ⟨a', g', e1, e2, e3⟩ := toks_go_ext (x := 35 :: note) (g := 2 * (s ++ 10 :: 35 :: note).length + 2) ha (by omega) (by rw [hlen]; simp; omega)
  refine ⟨a', e1, ?_⟩
  rw [toks, e2]
  obtain ⟨g', rfl⟩ : ∃ j, g' = j + 3 := ⟨g' - 3, by omega⟩
  have hb10 : byteAt (s ++ 10 :: 35 :: note) s.length = 10 := by simp [byteAt]
  have hb35 : byteAt (s ++ 10 :: 35 :: note) (s.length + 1) = 35 := by
    rw [byteAt_sh]; rfl
  have hne : noteEnd (s ++ 10 :: 35 :: note) (s.length + 1) = (s ++ 10 :: 35 :: note).length := by
    unfold noteEnd
    rw [drop_sh]
    have : Lib.indexByte (List.drop 1 (10 :: 35 :: note)) 10 = -1 := index_none (by
      intro b hb
      simp at hb
      rcases hb with rfl | hb
      · decide
      · exact hn b hb)
    rw [this, if_neg (by decide)]
  rw [toksGo, if_neg (by rw [hlen]; omega), hb10, if_neg (by decide), if_pos (by decide), toksGo, if_neg (by rw [hlen]; omega), hb35, if_pos rfl, hne, toksGo, if_pos (Nat.le_refl _)]
end Go.Proofs.YtlohpplpnddfaaaDoor
