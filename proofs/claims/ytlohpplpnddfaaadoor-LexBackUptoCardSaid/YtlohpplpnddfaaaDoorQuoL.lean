/- What was quoted is one token: plain. -/
import Derived.Test.YtlohpplpnddfaaaDoorQuoP
import Derived.Test.YtlohpplpnddfaaaDoorLexP
import Derived.Test.YtlohpplpnddfaaaDoorParL
namespace Go.Proofs.YtlohpplpnddfaaaDoor
open Go.RowKit

/-- Bytes as a literal, from the front. -/
def quoR : List UInt8 → List UInt8
  | [] => [39]
  | b :: l => qch b.toNat ++ quoR l
theorem quoTo_cons (b : UInt8) (p : List UInt8) : ∀ k, quoTo (b :: p) (k + 1) = 39 :: (qch b.toNat ++ (quoTo p k).drop 1) := by
  intro k
  induction k with
  | zero => simp [quoTo, byteAt]
  | succ k ih =>
    rw [quoTo, ih, quoTo]
    have e : byteAt (b :: p) (k + 1) = byteAt p k := by simp [byteAt]
    have h : ∀ k, 1 ≤ (quoTo p k).length := by
      intro k
      induction k with
      | zero => simp [quoTo]
      | succ k ih => rw [quoTo, List.length_append]; omega
    rw [e, List.drop_append_of_le_length (h k)]
    simp
theorem quoted_front (p : List UInt8) : quoted p = 39 :: quoR p := by
  have key : ∀ p : List UInt8, quoTo p p.length = 39 :: ((quoR p).dropLast) ∧ quoR p = (quoR p).dropLast ++ [39] := by
    intro p
    induction p with
    | nil => simp [quoTo, quoR]
    | cons b p ih =>
      rw [List.length_cons, quoTo_cons, ih.1]
      have hne : quoR p ≠ [] := by rw [ih.2]; simp
      refine ⟨?_, ?_⟩
      · simp only [quoR, List.drop_succ_cons, List.drop_zero]
        rw [List.dropLast_append_of_ne_nil hne]
      · simp only [quoR]
        rw [List.dropLast_append_of_ne_nil hne, List.append_assoc, ← ih.2]
  rw [quoted, (key p).1]
  have := (key p).2
  rw [List.cons_append, ← this]
theorem qch_first : ∀ b, b < 256 → byteAt (qch b) 0 ≠ 39 ∧ byteAt (qch b) 0 < 256 := by decide +kernel
theorem lch_qch {s post : List UInt8} {a b : Nat} (hb : b < 256) (h : s.drop a = qch b ++ post) : lchAt s a = .inr (b, a + (qch b).length) := by
  have e0 := byteAt_here h
  have e1 := byteAt_on h 1
  have e2 := byteAt_on h 2
  have e3 := byteAt_on h 3
  clear h
  rcases qch_kinds b hb with h | h | h
  · rcases h with rfl | rfl | rfl | rfl | rfl
    all_goals
      simp [qch, byteAt] at e0 e1
      simp [lchAt, lescAt, byteAt, e0, e1, qch]
  · have hs := qch_plain h
    have e4 : byteAt s a = b := by rw [e0, hs]; simp [byteAt]; omega
    rw [lchAt, e4, hs, if_neg (by omega), if_neg (by omega)]
    rfl
  · have hs := qch_hex h
    have k0 : byteAt s a = 92 := by rw [e0, hs]; rfl
    have k1 : byteAt s (a + 1) = 120 := by rw [e1, hs]; rfl
    have k2 : digV (byteAt s (a + 2)) = b / 16 := by rw [e2, hs]; exact digV_hexd (b / 16) (by omega)
    have k3 : digV (byteAt s (a + 3)) = b % 16 := by rw [e3, hs]; exact digV_hexd (b % 16) (by omega)
    rw [lchAt, if_pos k0, lescAt, k1, if_neg (by decide), if_neg (by decide), if_neg (by decide), if_neg (by decide), if_pos rfl, hexAt, k2, if_neg (by omega), lowAt, k3, if_neg (by omega), hs]
    have : 16 * (b / 16) + b % 16 = b := by omega
    rw [this]
    rfl
theorem lit_quoR {s : List UInt8} : ∀ (l : List UInt8) (f a : Nat) (acc : List UInt8), s.drop a = quoR l → l.length < f → acc.length ≤ 255 →
    litGo s 39 0 f a acc = if acc.length + l.length ≤ 255 then .inr (acc ++ l, a + (quoR l).length) else .inl (2, 0) := by
  intro l
  induction l with
  | nil =>
    intro f a acc h hf hacc
    obtain ⟨f, rfl⟩ : ∃ g, f = g + 1 := ⟨f - 1, by omega⟩
    have h0 : byteAt s a = 39 := by rw [byteAt_here h]; rfl
    have hl := byteAt_in (s := s) (a := a) (by omega)
    rw [litGo, if_neg (by omega), if_pos h0, if_pos (by simpa using hacc)]
    simp [quoR]
  | cons b l ih =>
    intro f a acc h hf hacc
    obtain ⟨f, rfl⟩ : ∃ g, f = g + 1 := ⟨f - 1, by simp at hf; omega⟩
    have hb := UInt8.toNat_lt b
    have hq := qch_len b.toNat
    have h0 : byteAt s a ≠ 39 := by rw [byteAt_here h, quoR, byteAt_app (by omega)]; exact (qch_first b.toNat hb).1
    have h1 : byteAt s a < 256 := by rw [byteAt_here h, quoR, byteAt_app (by omega)]; exact (qch_first b.toNat hb).2
    have hl := byteAt_in h1
    have hc := lch_qch (s := s) (a := a) (post := quoR l) hb h
    rw [litGo, if_neg (by omega), if_neg h0, hc]
    simp only
    have eb : b.toNat.toUInt8 = b := by simp
    by_cases h255 : acc.length = 255
    · rw [if_pos h255, if_neg (by simp; omega)]
    · rw [if_neg h255, eb, ih f _ (acc ++ [b]) (drop_on h rfl) (by simp at hf; omega) (by simp; omega)]
      by_cases hfit : acc.length + (b :: l).length ≤ 255
      · rw [if_pos (by simp at hfit ⊢; omega), if_pos hfit]
        simp [quoR]; omega
      · rw [if_neg (by simp at hfit ⊢; omega), if_neg hfit]
theorem quoR_len (l : List UInt8) : l.length < (quoR l).length := by
  induction l with
  | nil => simp [quoR]
  | cons b l ih => rw [quoR, List.length_append, List.length_cons]; have := qch_len b.toNat; omega
theorem quoted_tok (p : List UInt8) : tokAt (quoted p) 0 = if p.length ≤ 255 then .inr (⟨3, p, 0, 0⟩, (quoted p).length) else .inl (2, 0) := by
  rw [quoted_front]
  have hn : nameLen (39 :: quoR p) 0 = 0 := nameLen_is (fun j h => by omega) (by simp [byteAt, cont, isLet])
  have hb : byteAt (39 :: quoR p) 0 = 39 := rfl
  have hl := lit_quoR (s := 39 :: quoR p) p ((39 :: quoR p).length + 1) (0 + 1) [] rfl (by have := quoR_len p; simp; omega) (by simp)
  rw [tokAt, hn, if_neg (by decide), if_neg (by decide), hb, if_neg (by decide), if_neg (fun h => absurd h.1 (by decide)), if_pos (.inl rfl), hl]
  by_cases h : p.length ≤ 255
  · rw [if_pos (by simpa using h), if_pos h]
    simp; omega
  · rw [if_neg (by simpa using h), if_neg h]
theorem quoted_toks (p : List UInt8) : toks (quoted p) = if p.length ≤ 255 then .inr [⟨3, p, 0, 0⟩, ⟨6, [], 0, (quoted p).length⟩] else .inl (2, 0) := by
  have hb : byteAt (quoted p) 0 = 39 := by rw [quoted_front]; rfl
  have hl : 0 < (quoted p).length := by rw [quoted_front]; simp
  have ht := quoted_tok p
  rw [toks, show 2 * (quoted p).length + 2 = (2 * (quoted p).length + 1) + 1 from rfl, toksGo, if_neg (by omega), hb, if_neg (by decide), if_neg (by decide), ht]
  by_cases h : p.length ≤ 255
  · rw [if_pos h, if_pos h]
    simp only
    rw [toksGo, if_pos (Nat.le_refl _)]
    rfl
  · rw [if_neg h, if_neg h]
end Go.Proofs.YtlohpplpnddfaaaDoor
