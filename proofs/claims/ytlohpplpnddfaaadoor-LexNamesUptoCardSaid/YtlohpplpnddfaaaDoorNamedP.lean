/- A name is one token: plain. -/
import Derived.Test.YtlohpplpnddfaaaDoorLexW
namespace Go.Proofs.YtlohpplpnddfaaaDoor
open Go.RowKit

theorem isName_spec {s : List UInt8} (h : isName s = true) : 0 < s.length ∧ s.length ≤ 32 ∧ nameLen s 0 = s.length := by
  unfold isName at h
  simp at h
  exact ⟨by have := h.1.1; exact List.length_pos_iff.2 this, h.1.2, h.2⟩
theorem isName_of {s : List UInt8} (h0 : 0 < s.length) (h1 : s.length ≤ 32) (h2 : nameLen s 0 = s.length) : isName s = true := by
  unfold isName
  simp [h1, h2]
  exact List.ne_nil_of_length_pos h0
theorem cont_letter {b : Nat} (h : cont 0 b = true) : b ≠ 35 ∧ isBlank b = false := by
  simp [cont, isLet] at h
  unfold isBlank
  simp
  omega
theorem named_toks {s : List UInt8} (h : isName s = true) : toks s = .inr [⟨1, s, 0, 0⟩, ⟨6, [], 0, s.length⟩] := by
  obtain ⟨h0, h1, h2⟩ := isName_spec h
  have hc := (nameLen_spec s 0).1 0 (by omega)
  obtain ⟨k1, k2⟩ := cont_letter hc
  simp only [Nat.add_zero] at k1 k2
  have ht : tokAt s 0 = .inr (⟨1, s, 0, 0⟩, s.length) := by
    rw [tokAt, h2, if_neg (by omega), if_pos h0, List.drop_zero, List.take_length, Nat.zero_add]
  have e : 2 * s.length + 2 = (2 * s.length + 1) + 1 := by omega
  have e2 : 2 * s.length + 1 = (2 * s.length) + 1 := rfl
  rw [toks, e, toks_on (by omega) k1 k2 ht, e2, toks_end (Nat.le_refl _)]
  rfl
/-- What a name token is. -/
def NameTok (s : List UInt8) (t : Tok) : Prop := t.kind = 1 → ∃ p, p ≤ s.length ∧ 0 < nameLen s p ∧ nameLen s p ≤ 32 ∧ t.text = (s.drop p).take (nameLen s p)
theorem tokAt_name {s : List UInt8} {a n : Nat} {t : Tok} (ha : a < s.length) (e : tokAt s a = .inr (t, n)) : NameTok s t := by
  intro hk
  unfold tokAt at e
  split at e
  · cases e
  split at e
  · simp at e; obtain ⟨e1, _⟩ := e; subst e1; exact ⟨a, by omega, by omega, by omega, rfl⟩
  split at e
  · simp at e; obtain ⟨e1, _⟩ := e; subst e1; simp at hk
  split at e
  · simp at e; obtain ⟨e1, _⟩ := e; subst e1; simp at hk
  split at e
  · split at e
    · cases e
    · simp at e; obtain ⟨e1, _⟩ := e; subst e1; simp at hk
  split at e
  · split at e
    · cases e
    · simp at e; obtain ⟨e1, _⟩ := e; subst e1; simp at hk
  · cases e
theorem toksGo_name {s : List UInt8} : ∀ {f a : Nat} {l r : List Tok}, toksGo s f a l = .inr r → (∀ t ∈ l, NameTok s t) → ∀ t ∈ r, NameTok s t := by
  intro f
  induction f with
  | zero => intro a l r h; cases h
  | succ f ih =>
    intro a l r h hl
    rw [toksGo] at h
    split at h
    · have e := Sum.inr.inj h
      subst e
      intro t ht
      rw [List.mem_append] at ht
      rcases ht with ht | ht
      · exact hl t ht
      · simp at ht; subst ht; intro hk; simp at hk
    split at h
    · exact ih h hl
    split at h
    · exact ih h hl
    split at h
    · cases h
    · next ha _ _ _ t n he =>
      refine ih h ?_
      intro u hu
      rw [List.mem_append] at hu
      rcases hu with hu | hu
      · exact hl u hu
      · simp at hu; subst hu; exact tokAt_name (by omega) he
theorem toks_named {s : List UInt8} {t : Tok} {l : List Tok} (h : toks s = .inr (t :: l)) (hk : t.kind = 1) (ht : t.text = s) : isName s = true := by
  obtain ⟨p, h1, h2, h3, h4⟩ := toksGo_name h (fun t ht => by simp at ht) t List.mem_cons_self hk
  have hin := nameLen_in s p h1
  have hl : s.length = nameLen s p := by
    have := congrArg List.length h4
    rw [ht] at this
    simp at this
    omega
  obtain rfl : p = 0 := by omega
  exact isName_of (by omega) (by omega) hl.symm
theorem named_more {s : List UInt8} (h : isName s = true) : isName (s ++ [120]) = decide (s.length < 32) := by
  obtain ⟨h0, h1, h2⟩ := isName_spec h
  have hs := nameLen_spec s 0
  rw [h2] at hs
  have hn : nameLen (s ++ [120]) 0 = s.length + 1 := by
    apply nameLen_is
    · intro j hj
      rcases Nat.lt_or_ge j s.length with hj2 | hj2
      · have := hs.1 j hj2
        rw [Nat.zero_add] at this ⊢
        rw [byteAt, List.getElem?_append_left hj2]
        exact this
      · obtain rfl : j = s.length := by omega
        rw [Nat.zero_add, byteAt, List.getElem?_append_right (Nat.le_refl _)]
        simp [cont, isLet]
    · rw [byteAt_ge (by simp)]
      simp [cont, isLet, isDig]
  unfold isName
  rw [hn]
  simp
  omega
end Go.Proofs.YtlohpplpnddfaaaDoor
