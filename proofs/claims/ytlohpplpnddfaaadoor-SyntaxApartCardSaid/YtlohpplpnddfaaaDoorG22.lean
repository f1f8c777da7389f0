/- Rules behind other rules: plain. -/
import Derived.Test.YtlohpplpnddfaaaDoorG19
namespace Go.Proofs.YtlohpplpnddfaaaDoor
open Go.RowKit

mutual
theorem SameN.flip {n m : Nd} : SameN false n m → SameN false m n
  | .mk _ h => .mk (fun h => by cases h) (SameL.flip h)
theorem SameL.flip {l m : List Nd} : SameL false l m → SameL false m l
  | .nil => .nil
  | .cons h1 h2 => .cons (SameN.flip h1) (SameL.flip h2)
end
theorem SameG.flip {l m : List Ru} (h : SameG false l m) : SameG false m l := by
  induction h with
  | nil => exact .nil
  | cons h1 _ _ ih => exact .cons h1.flip (fun h => by cases h) ih
theorem kind_bare {T T' : List Tok} {S S' : List Tok} (h : T.map bareT = T'.map bareT) (h0 : T ≠ []) : kindT (T ++ S) = kindT (T' ++ S') := by
  obtain ⟨t, t', T1, T1', rfl, rfl, h1, _, _, _⟩ := (bare_cases h).resolve_left (fun h => h0 h.1)
  exact h1
/-- Rules up to an end, and the like ones behind others, up to tokens at which a choice stops. -/
theorem rules_swap {e : Tok} {S : List Tok} (he : e.kind = 6) (hS : StopT S) : ∀ (f : Nat) {T T' : List Tok} {acc acc' pre g : List Ru} {r : List Tok}, NoEnd T → T.map bareT = T'.map bareT → SameG false acc acc' → pRules f (T ++ [e]) acc = some (.ok g r) → pre.length + g.length ≤ 64 →
    ∃ g', SameG false g g' ∧ r = [e] ∧ 0 < g.length ∧ ∀ f3 r3, pRules f3 S (pre ++ g') = some r3 → ∃ f4, pRules f4 (T' ++ S) (pre ++ acc') = some r3 := by
  intro f
  induction f with
  | zero => intro T T' acc acc' pre g r _ _ _ h; cases h
  | succ f ih =>
    intro T T' acc acc' pre g r hT hc hacc h hlen
    rw [pRules] at h
    split at h
    · next h6 =>
      have e2 := Option.some.inj h
      injection e2 with e3 e4
      subst e3 e4
      obtain rfl : T = [] := by
        cases T with
        | nil => rfl
        | cons u U => exact absurd h6.2 (hT u (by simp))
      obtain rfl : T' = [] := by simpa using hc.symm
      exact ⟨acc', hacc, rfl, by omega, fun f3 r3 h3 => ⟨f3, h3⟩⟩
    next h6 =>
    split at h
    · cases h
    next h64 =>
    split at h
    · cases h
    next h1 =>
    split at h
    · cases h
    next h2 =>
    have hk1 : kindT (T ++ [e]) = 1 := by omega
    have hk2 : kindT (T ++ [e]).tail = 2 := by omega
    obtain ⟨t, t', T1, T1', rfl, rfl, ht, htx, _, hc1⟩ := (bare_cases hc).resolve_left (fun h => by rw [h.1] at hk1; have : e.kind = 1 := hk1; omega)
    have hk2' : kindT (T1 ++ [e]) = 2 := hk2
    obtain ⟨a, a', T2, T2', rfl, rfl, ha, _, _, hc2⟩ := (bare_cases hc1).resolve_left (fun h => by rw [h.1] at hk2'; have : e.kind = 2 := hk2'; omega)
    have e0 : (t :: a :: T2 ++ [e]).tail.tail = T2 ++ [e] := rfl
    rw [e0] at h
    cases e1 : pChoice f 0 (T2 ++ [e]) with
    | none => rw [e1] at h; cases h
    | some x =>
      rw [e1] at h
      cases x with
      | err c x => cases h
      | ok n r2 =>
        obtain ⟨T3, rfl, hT3, gg⟩ := (swap_all he hS f).choice (d' := 0) hT.tail.tail hc2 (Nat.le_refl _) e1
        rcases gg with ⟨hne, _⟩ | ⟨m, T3', gm, hc3, hs⟩
        · exact absurd rfl hne
        · have hname : nameT (t :: a :: T2 ++ [e]) = t'.text := htx
          have hgrow := rules_grow h
          simp at hgrow
          obtain ⟨g', hg', hr, hpos, hon⟩ := ih (acc' := acc' ++ [⟨t'.text, m, t'.pos⟩]) (pre := pre) hT3 hc3 (hacc.append (by rw [hname]; exact .cons hs (fun h => by cases h) .nil)) h hlen
          refine ⟨g', hg', hr, hpos, fun f3 r3 h3 => ?_⟩
          obtain ⟨f4, h4⟩ := hon f3 r3 h3
          have hk1' : t'.kind = 1 := by rw [← ht]; exact hk1
          have hka : a'.kind = 2 := by rw [← ha]; exact hk2'
          have hl := hacc.length
          refine ⟨f + f4 + 1, ?_⟩
          rw [pRules, if_neg (fun h => by have : t'.kind = 6 := h.2; omega), if_neg (fun h => by rw [List.length_append] at h; omega), if_neg (fun h => h hk1'), if_neg (fun h => h hka), show (t' :: a' :: T2' ++ S).tail.tail = T2' ++ S from rfl, pChoice_mono gm (by omega)]
          simp only
          rw [List.append_assoc]
          exact pRules_mono h4 (by omega)
theorem sh_bare (k : Nat) (l : List Tok) : (l.map (shTok k)).map bareT = l.map bareT := by
  rw [List.map_map]; rfl
/-- The tokens ahead of the end. -/
theorem ends_split {l : List Tok} (h : EndsT l) : ∃ T e, l = T ++ [e] ∧ NoEnd T ∧ e.kind = 6 := by
  induction l with
  | nil => cases h
  | cons t l ih =>
    cases l with
    | nil => exact ⟨[], t, rfl, fun u hu => (by cases hu), h⟩
    | cons u l =>
      obtain ⟨T, e, h1, h2, h3⟩ := ih h.2
      refine ⟨t :: T, e, by rw [h1]; rfl, fun v hv => ?_, h3⟩
      rcases List.mem_cons.1 hv with rfl | hv
      · exact h.1
      · exact h2 v hv
/-- What is read of two sources, one behind the other, is what is read of each. -/
theorem rows_reads {s x : List UInt8} {a b : List Ru} (h1 : Reads s (.inr a)) (h2 : Reads x (.inr b)) (h8 : (s ++ 10 :: x).length ≤ 8192) (h64 : a.length + b.length ≤ 64) : ∃ c, Reads (s ++ 10 :: x) (.inr c) ∧ SameG false c (a ++ b) := by
  unfold Reads at h1 h2
  cases e1 : lexed s with
  | inl er => rw [e1] at h1; cases h1
  | inr l1 =>
    cases e2 : lexed x with
    | inl er => rw [e2] at h2; cases h2
    | inr l2 =>
      rw [e1] at h1
      rw [e2] at h2
      obtain ⟨f1, h1⟩ := h1
      obtain ⟨f2, h2⟩ := h2
      rcases h1 with ⟨_, _, _, h1⟩ | ⟨g1, r1, h1, hg1⟩
      · cases h1
      rcases h2 with ⟨_, _, _, h2⟩ | ⟨g2, r2, h2, hg2⟩
      · cases h2
      cases hg1
      cases hg2
      obtain ⟨l1', rfl, hj⟩ := toks_join (lexed_inr e1).2 (lexed_inr e2).2
      have hE1 := ends_noEnd (toks_ends (lexed_inr e1).2).1
      obtain ⟨T, e, rfl, hT, he⟩ := ends_split (toks_ends (lexed_inr e2).2).1
      -- the second one's tokens begin with a name and an arrow
      have hS : StopT ((T ++ [e]).map (shTok (s.length + 1))) := by
        cases f2 with
        | zero => cases h2
        | succ f2 =>
          rw [pRules, if_neg (by simp), if_neg (by simp)] at h2
          split at h2
          · cases h2
          next k1 =>
          split at h2
          · cases h2
          next k2 =>
          match hTe : T ++ [e] with
          | [] => simp at hTe
          | [t] => rw [hTe] at k2; exact absurd (show kindT ([] : List Tok) ≠ 2 from (by decide)) k2
          | t :: u :: l =>
            rw [hTe] at k1 k2
            have k1' : t.kind = 1 := by have : ¬ (t.kind ≠ 1) := k1; omega
            have k2' : u.kind = 2 := by have : ¬ (u.kind ≠ 2) := k2; omega
            have hs : sgnOf (shTok (s.length + 1) t :: shTok (s.length + 1) u :: l.map (shTok (s.length + 1))) = [] := by
              rw [sgnOf, if_neg (by show t.kind ≠ 5; omega)]
            simp only [List.map_cons]
            refine ⟨by rw [hs]; decide, by rw [hs]; rfl, by rw [hs]; rfl, by show t.kind ≠ 2; omega, fun f d => ?_⟩
            rw [pOne, if_pos (by exact k1'), if_pos (by exact k2')]
      obtain ⟨a', ha', _, hpos, hon⟩ := rules_swap (pre := []) rfl hS f1 hE1 rfl .nil h1 (by simp; omega)
      have e6 : (shTok (s.length + 1) e).kind = 6 := he
      obtain ⟨b', hb', _, hposb, honb⟩ := rules_swap (pre := a') he (end_stop e6) f2 hT (sh_bare (s.length + 1) T).symm .nil h2 (by rw [← ha'.length]; omega)
      have hl := ha'.length
      obtain ⟨f4, h4⟩ := honb 1 (.ok (a' ++ b') [shTok (s.length + 1) e]) (by rw [pRules, if_pos ⟨by rw [List.length_append]; omega, e6⟩])
      rw [List.append_nil] at h4
      obtain ⟨f5, h5⟩ := hon f4 _ (by rw [List.nil_append, List.map_append]; exact h4)
      refine ⟨a' ++ b', ?_, ?_⟩
      · unfold Reads
        rw [lexed_toks h8 hj]
        exact ⟨f5, .inr ⟨_, _, h5, rfl⟩⟩
      · exact (ha'.append hb').flip
theorem rules_pos : ∀ {f : Nat} {rs : List Tok} {l g : List Ru} {r : List Tok}, pRules f rs l = some (.ok g r) → 0 < g.length := by
  intro f
  induction f with
  | zero => intro rs l g r h; cases h
  | succ f ih =>
    intro rs l g r h
    rw [pRules] at h
    split at h
    · next h6 => have e := Option.some.inj h; injection e with e1 e2; subst e1; omega
    split at h
    · cases h
    split at h
    · cases h
    split at h
    · cases h
    split at h
    · cases h
    · cases h
    · exact ih h
theorem rules_le : ∀ {f : Nat} {rs : List Tok} {l g : List Ru} {r : List Tok}, pRules f rs l = some (.ok g r) → l.length ≤ 64 → g.length ≤ 64 := by
  intro f
  induction f with
  | zero => intro rs l g r h; cases h
  | succ f ih =>
    intro rs l g r h hl
    rw [pRules] at h
    split at h
    · have e := Option.some.inj h; injection e with e1 e2; subst e1; exact hl
    split at h
    · cases h
    next h64 =>
    split at h
    · cases h
    next h1 =>
    split at h
    · cases h
    split at h
    · cases h
    · cases h
    · exact ih h (by simp; omega)
theorem Reads.le {s : List UInt8} {g : List Ru} (h : Reads s (.inr g)) : g.length ≤ 64 := by
  unfold Reads at h
  split at h
  · cases h
  · obtain ⟨f, h⟩ := h
    rcases h with ⟨_, _, _, h⟩ | ⟨g', r, h, hg⟩
    · cases h
    · cases hg; exact rules_le h (by simp)
theorem Reads.pos {s : List UInt8} {g : List Ru} (h : Reads s (.inr g)) : 0 < g.length := by
  unfold Reads at h
  split at h
  · cases h
  · obtain ⟨f, h⟩ := h
    rcases h with ⟨_, _, _, h⟩ | ⟨g', r, h, hg⟩
    · cases h
    · cases hg; exact rules_pos h
end Go.Proofs.YtlohpplpnddfaaaDoor
