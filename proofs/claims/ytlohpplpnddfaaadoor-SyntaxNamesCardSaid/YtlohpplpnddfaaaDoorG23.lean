/- What is wrong with tokens hangs on no places: plain. | Tokens with blanks between each two: what is lexed. | Rows of tokens as they are joined. | A name is one token: plain. -/
import Derived.Test.YtlohpplpnddfaaaDoorG22
import Derived.Test.YtlohpplpnddfaaaDoorG18
import Derived.Test.YtlohpplpnddfaaaDoorG11
namespace Go.Proofs.YtlohpplpnddfaaaDoor
open Go.RowKit

theorem ok_same {f : Nat} {e e' : Tok} (he : e.kind = 6) (he' : e'.kind = 6) {d : Nat} {T T' r : List Tok} {n : Nd} {l l' : List Nd} (hT : NoEnd T) (hc : T.map bareT = T'.map bareT) (hl : SameL false l l') (h : pParts f d (T ++ [e]) l = some (.ok n r)) : ∃ T2 T2' m, r = T2 ++ [e] ∧ NoEnd T2 ∧ pParts f d (T' ++ [e']) l' = some (.ok m (T2' ++ [e'])) ∧ T2.map bareT = T2'.map bareT ∧ SameN false n m := by
  obtain ⟨T2, rfl, h2, g⟩ := (swap_all he (end_stop he') f).parts (d' := d) hT hc (Nat.le_refl _) hl h
  rcases g with ⟨hne, _⟩ | ⟨m, T2', g, h3, h4⟩
  · exact absurd rfl hne
  · exact ⟨T2, T2', m, rfl, h2, g, h3, h4⟩
theorem badE_bare {T T' : List Tok} {e e' : Tok} (he : e.kind = 6) (he' : e'.kind = 6) (hc : T.map bareT = T'.map bareT) : badE (T ++ [e]) = badE (T' ++ [e']) := by
  rcases bare_cases hc with ⟨rfl, rfl⟩ | ⟨t, t', _, _, rfl, rfl, h1, _, _, _⟩
  · simp only [List.nil_append, badE, he, he']
  · simp only [List.cons_append, badE, h1]
/-- An error stays the error. -/
structure ErrS (f : Nat) (e e' : Tok) : Prop where
  choice : ∀ {d c x : Nat} {T T' : List Tok}, NoEnd T → T.map bareT = T'.map bareT → pChoice f d (T ++ [e]) = some (.err c x) → ∃ x', pChoice f d (T' ++ [e']) = some (.err c x')
  alts : ∀ {d c x : Nat} {T T' : List Tok} {l l' : List Nd}, NoEnd T → T.map bareT = T'.map bareT → SameL false l l' → pAlts f d (T ++ [e]) l = some (.err c x) → ∃ x', pAlts f d (T' ++ [e']) l' = some (.err c x')
  parts : ∀ {d c x : Nat} {T T' : List Tok} {l l' : List Nd}, NoEnd T → T.map bareT = T'.map bareT → SameL false l l' → pParts f d (T ++ [e]) l = some (.err c x) → ∃ x', pParts f d (T' ++ [e']) l' = some (.err c x')
  part : ∀ {d c x : Nat} {T T' : List Tok}, NoEnd T → T.map bareT = T'.map bareT → pPart f d (T ++ [e]) = some (.err c x) → ∃ x', pPart f d (T' ++ [e']) = some (.err c x')
  one : ∀ {d c x : Nat} {T T' : List Tok}, NoEnd T → T.map bareT = T'.map bareT → pOne f d (T ++ [e]) = some (.err c x) → ∃ x', pOne f d (T' ++ [e']) = some (.err c x')
theorem err_all {e e' : Tok} (he : e.kind = 6) (he' : e'.kind = 6) : ∀ f, ErrS f e e' := by
  intro f
  induction f with
  | zero => exact ⟨fun _ _ h => by simp [pChoice] at h, fun _ _ _ h => by simp [pAlts] at h, fun _ _ _ h => by simp [pParts] at h, fun _ _ h => by simp [pPart] at h, fun _ _ h => by simp [pOne] at h⟩
  | succ f ih =>
    refine ⟨fun {d c x T T'} hT hc h => ?_, fun {d c x T T' l l'} hT hc hl h => ?_, fun {d c x T T' l l'} hT hc hl h => ?_, fun {d c x T T'} hT hc h => ?_, fun {d c x T T'} hT hc h => ?_⟩
    · rw [pChoice] at h
      rw [pChoice]
      cases e1 : pParts f d (T ++ [e]) [] with
      | none => rw [e1] at h; cases h
      | some y =>
        rw [e1] at h
        cases y with
        | err c1 x1 =>
          obtain ⟨x', g⟩ := ih.parts hT hc .nil e1
          cases h
          exact ⟨x', by rw [g]⟩
        | ok n r =>
          obtain ⟨T2, T2', m, rfl, h2, g, h3, h4⟩ := ok_same he he' hT hc .nil e1
          rw [g]
          exact ih.alts h2 h3 (.cons h4 .nil) h
    · rw [pAlts] at h
      rw [pAlts]
      rcases sgn_bare (S := [e]) (S' := [e']) hc with ⟨rfl, rfl⟩ | ⟨hne, hs⟩
      · simp only [List.nil_append] at h
        rw [if_neg (end_stop he).sl] at h
        cases h
      · rw [← hs]
        split at h
        · next h47 =>
          rw [if_pos h47]
          obtain ⟨t, t', T1, T1', rfl, rfl, _, _, _, hc1⟩ := (bare_cases hc).resolve_left (fun h => hne h.1)
          simp only [List.cons_append, List.tail_cons] at h ⊢
          cases e1 : pParts f d (T1 ++ [e]) [] with
          | none => rw [e1] at h; cases h
          | some y =>
            rw [e1] at h
            cases y with
            | err c1 x1 =>
              obtain ⟨x', g⟩ := ih.parts hT.tail hc1 .nil e1
              cases h
              exact ⟨x', by rw [g]⟩
            | ok n r =>
              obtain ⟨T2, T2', m, rfl, h2, g, h3, h4⟩ := ok_same he he' hT.tail hc1 .nil e1
              rw [g]
              exact ih.alts h2 h3 (hl.snoc h4) h
        · cases h
    · rw [pParts] at h
      rw [pParts]
      cases e1 : pPart f d (T ++ [e]) with
      | none => rw [e1] at h; cases h
      | some y =>
        rw [e1] at h
        cases y with
        | err c1 x1 =>
          obtain ⟨x', g⟩ := ih.part hT hc e1
          cases h
          exact ⟨x', by rw [g]⟩
        | ok a r =>
          obtain ⟨T2, rfl, h2, g⟩ := (swap_all he (end_stop he') f).part (d' := d) hT hc (Nat.le_refl _) e1
          cases a with
          | none => cases h
          | some n =>
            rcases g with ⟨hne, _⟩ | ⟨m, T2', g, h3, h4⟩
            · exact absurd rfl hne
            · cases m with
              | none => exact h4.elim
              | some m =>
                rw [g]
                exact ih.parts h2 h3 (hl.snoc h4) h
    · have hp := pre_bare he (end_stop he') hc
      obtain ⟨U, U', hU, hcU, eU, eU'⟩ : ∃ U U', NoEnd U ∧ U.map bareT = U'.map bareT ∧ (if preK (sgnOf (T ++ [e])) = 0 then T ++ [e] else (T ++ [e]).tail) = U ++ [e] ∧ (if preK (sgnOf (T' ++ [e'])) = 0 then T' ++ [e'] else (T' ++ [e']).tail) = U' ++ [e'] := by
        by_cases h0 : preK (sgnOf (T ++ [e])) = 0
        · exact ⟨T, T', hT, hc, by rw [if_pos h0], by rw [if_pos (by rw [← hp]; exact h0)]⟩
        · rcases bare_cases hc with ⟨rfl, rfl⟩ | ⟨t, t', T1, T1', rfl, rfl, _, _, _, hc1⟩
          · exact absurd (by simpa using (end_stop he).pre) h0
          · exact ⟨T1, T1', hT.tail, hc1, by rw [if_neg h0]; rfl, by rw [if_neg (by rw [← hp]; exact h0)]; rfl⟩
      cases e1 : pOne f d (U ++ [e]) with
      | none => rw [pPart, eU, e1] at h; cases h
      | some y =>
        cases y with
        | err c1 x1 =>
          rw [part_err (by rw [eU]; exact e1)] at h
          cases h
          obtain ⟨x', g⟩ := ih.one hU hcU e1
          exact ⟨x', part_err (by rw [eU']; exact g)⟩
        | ok a r =>
          obtain ⟨T2, rfl, h2, g⟩ := (swap_all he (end_stop he') f).one (d' := d) hU hcU (Nat.le_refl _) e1
          cases a with
          | some n => rw [part_some (by rw [eU]; exact e1)] at h; cases h
          | none =>
            rw [pPart, eU, e1] at h
            simp only at h
            by_cases h0 : preK (sgnOf (T ++ [e])) = 0
            · rw [if_pos h0] at h; cases h
            · rw [if_neg h0] at h
              rcases g with ⟨hne, _⟩ | ⟨m, T2', g, h3, h4⟩
              · exact absurd rfl hne
              · cases m with
                | some m => exact h4.elim
                | none =>
                  refine ⟨posT (T2' ++ [e']), ?_⟩
                  rw [pPart, eU', g]
                  simp only
                  rw [if_neg (by rw [← hp]; exact h0), ← badE_bare he he' h3]
                  have e2 := Option.some.inj h
                  injection e2 with e3 e4
                  rw [e3]
    · rcases bare_cases hc with ⟨rfl, rfl⟩ | ⟨t, t', T1, T1', rfl, rfl, hk, ht, _, hc1⟩
      · simp only [List.nil_append] at h
        rw [(end_stop he).one] at h
        cases h
      · have hb := kind_behind he (end_stop he') hc1
        rw [List.cons_append, pOne] at h
        rw [List.cons_append, pOne, ← hk, ← ht]
        split at h
        · split at h <;> cases h
        next h1 =>
        rw [if_neg h1]
        split at h
        · cases h
        next h3 =>
        rw [if_neg h3]
        split at h
        · cases h
        next h4 =>
        rw [if_neg h4]
        split at h
        · cases h
        next h5 =>
        rw [if_neg h5]
        split at h
        · next h6 =>
          rw [if_pos h6]
          by_cases h24 : d = 24
          · rw [if_pos h24] at h
            rw [if_pos h24]
            have e2 := Option.some.inj h
            injection e2 with e3 e4
            rw [← e3]
            exact ⟨_, rfl⟩
          · rw [if_neg h24] at h
            rw [if_neg h24]
            cases e1 : pChoice f (d + 1) (T1 ++ [e]) with
            | none => rw [e1] at h; cases h
            | some y =>
              rw [e1] at h
              cases y with
              | err c1 x1 =>
                obtain ⟨x', g⟩ := ih.choice hT.tail hc1 e1
                cases h
                exact ⟨x', by rw [g]⟩
              | ok n r =>
                obtain ⟨T2, rfl, h2, g⟩ := (swap_all he (end_stop he') f).choice (d' := d + 1) hT.tail hc1 (Nat.le_refl _) e1
                rcases g with ⟨hne, _⟩ | ⟨m, T2', g, h3', h4'⟩
                · exact absurd rfl hne
                · have hsg : sgnOf (T2 ++ [e]) = sgnOf (T2' ++ [e']) := by
                    rcases sgn_bare (S := [e]) (S' := [e']) h3' with ⟨rfl, rfl⟩ | ⟨_, hs⟩
                    · simp only [List.nil_append, sgnOf, he, he']; rfl
                    · exact hs
                  simp only at h
                  by_cases h41 : sgnOf (T2 ++ [e]) = [41]
                  · rw [if_pos h41] at h; cases h
                  · rw [if_neg h41] at h
                    rw [g]
                    simp only
                    rw [if_neg (by rw [← hsg]; exact h41), ← badE_bare he he' h3']
                    have e2 := Option.some.inj h
                    injection e2 with e3 e4
                    rw [e3]
                    exact ⟨_, rfl⟩
        · cases h
theorem rules_err {e e' : Tok} (he : e.kind = 6) (he' : e'.kind = 6) : ∀ (f : Nat) {T T' : List Tok} {acc acc' : List Ru} {c x : Nat}, NoEnd T → T.map bareT = T'.map bareT → SameG false acc acc' → pRules f (T ++ [e]) acc = some (.err c x) → ∃ x', pRules f (T' ++ [e']) acc' = some (.err c x') := by
  intro f
  induction f with
  | zero => intro T T' acc acc' c x _ _ _ h; cases h
  | succ f ih =>
    intro T T' acc acc' c x hT hc hacc h
    have hl := hacc.length
    have hk : kindT (T ++ [e]) = kindT (T' ++ [e']) := by
      by_cases h0 : T = []
      · subst h0
        obtain rfl : T' = [] := by simpa using hc.symm
        show e.kind = e'.kind
        omega
      · exact kind_bare hc h0
    rw [pRules] at h
    rw [pRules, ← hk, ← hl]
    split at h
    · cases h
    next h6 =>
    rw [if_neg h6]
    split at h
    · next h64 =>
      rw [if_pos h64]
      have e2 := Option.some.inj h
      injection e2 with e3 e4
      rw [← e3]
      exact ⟨_, rfl⟩
    next h64 =>
    rw [if_neg h64]
    split at h
    · next h1 =>
      rw [if_pos h1]
      have e2 := Option.some.inj h
      injection e2 with e3 e4
      rw [← e3, ← badE_bare he he' hc]
      exact ⟨_, rfl⟩
    next h1 =>
    rw [if_neg h1]
    have hk1 : kindT (T ++ [e]) = 1 := by omega
    obtain ⟨t, t', T1, T1', rfl, rfl, ht, htx, _, hc1⟩ := (bare_cases hc).resolve_left (fun h => by rw [h.1] at hk1; have : e.kind = 1 := hk1; omega)
    have hk2 : kindT (T1 ++ [e]) = kindT (T1' ++ [e']) := by
      by_cases h0 : T1 = []
      · subst h0
        obtain rfl : T1' = [] := by simpa using hc1.symm
        show e.kind = e'.kind
        omega
      · exact kind_bare hc1 h0
    have e5 : (t :: T1 ++ [e]).tail = T1 ++ [e] := rfl
    have e5' : (t' :: T1' ++ [e']).tail = T1' ++ [e'] := rfl
    rw [e5] at h
    rw [e5', ← hk2]
    split at h
    · next h2 =>
      rw [if_pos h2]
      have e2 := Option.some.inj h
      injection e2 with e3 e4
      rw [← e3, ← badE_bare he he' hc1]
      exact ⟨_, rfl⟩
    next h2 =>
    rw [if_neg h2]
    have hk3 : kindT (T1 ++ [e]) = 2 := by omega
    obtain ⟨a, a', T2, T2', rfl, rfl, ha, _, _, hc2⟩ := (bare_cases hc1).resolve_left (fun h => by rw [h.1] at hk3; have : e.kind = 2 := hk3; omega)
    have e0 : (a :: T2 ++ [e]).tail = T2 ++ [e] := rfl
    have e0' : (a' :: T2' ++ [e']).tail = T2' ++ [e'] := rfl
    rw [e0] at h
    rw [e0']
    cases e1 : pChoice f 0 (T2 ++ [e]) with
    | none => rw [e1] at h; cases h
    | some y =>
      rw [e1] at h
      cases y with
      | err c1 x1 =>
        obtain ⟨x', g⟩ := (err_all he he' f).choice hT.tail.tail hc2 e1
        have e2 := Option.some.inj h
        injection e2 with e3 e4
        rw [g, ← e3]
        exact ⟨_, rfl⟩
      | ok n r =>
        obtain ⟨T3, rfl, hT3, gg⟩ := (swap_all he (end_stop he') f).choice (d' := 0) hT.tail.tail hc2 (Nat.le_refl _) e1
        rcases gg with ⟨hne, _⟩ | ⟨m, T3', gm, hc3, hs⟩
        · exact absurd rfl hne
        · rw [gm]
          have hname : nameT (t :: a :: T2 ++ [e]) = nameT (t' :: a' :: T2' ++ [e']) := htx
          exact ih hT3 hc3 (hacc.append (by rw [hname]; exact .cons hs (fun h => by cases h) .nil)) h
/-- What is read of the same tokens is the same, but for places. -/
theorem reads_nat {s t : List UInt8} {l l' : List Tok} {r r' : (Nat × Int) ⊕ List Ru} (hs : lexed s = .inr l) (ht : lexed t = .inr l') (hc : l.map bareT = l'.map bareT) (h : Reads s r) (h' : Reads t r') :
    (∃ c x x', r = .inl (c, x) ∧ r' = .inl (c, x')) ∨ ∃ g g', r = .inr g ∧ r' = .inr g' ∧ SameG false g g' := by
  obtain ⟨T, e, rfl, hT, he⟩ := ends_split (toks_ends (lexed_inr hs).2).1
  obtain ⟨T', e', rfl, hT', he'⟩ := ends_split (toks_ends (lexed_inr ht).2).1
  have hc1 : T.map bareT = T'.map bareT := by
    rw [List.map_append, List.map_append] at hc
    exact (List.append_inj' hc rfl).1
  have k : ∀ {f : Nat} {y : PR (List Ru)}, pRules f (T' ++ [e']) [] = some y → ∀ {z}, (match y with
    | .err c x => z = (.inl (c, (x : Int)) : (Nat × Int) ⊕ List Ru)
    | .ok g _ => z = .inr g) → r' = z := fun {f y} hy {z} hz => h'.det (by
      unfold Reads
      rw [ht]
      cases y with
      | err c x => exact ⟨f, .inl ⟨c, x, hy, hz⟩⟩
      | ok g rs => exact ⟨f, .inr ⟨g, rs, hy, hz⟩⟩)
  unfold Reads at h
  rw [hs] at h
  obtain ⟨f, h⟩ := h
  rcases h with ⟨c, x, h, rfl⟩ | ⟨g, rs, h, rfl⟩
  · obtain ⟨x', h2⟩ := rules_err he he' f hT hc1 .nil h
    exact .inl ⟨c, x, x', rfl, k h2 rfl⟩
  · obtain ⟨g', hg, _, hpos, hon⟩ := rules_swap (pre := []) he (end_stop he') f hT hc1 .nil h (by have := rules_le h (by simp); simpa using this)
    have hl := hg.length
    obtain ⟨f4, h4⟩ := hon 1 (.ok g' [e']) (by rw [List.nil_append, pRules, if_pos ⟨by omega, he'⟩])
    exact .inr ⟨g, g', rfl, k (by rw [List.nil_append] at h4; exact h4) rfl, hg⟩
end Go.Proofs.YtlohpplpnddfaaaDoor
namespace Go.Proofs.YtlohpplpnddfaaaDoor
open Go.RowKit Go.Sort

theorem bl_cut (S : ByteArray) (a b : Nat) : bl (S.extract a b) = cutS (bl S) a b := by
  unfold cutS bl
  rw [ByteArray.data_extract, Array.toList_extract]
theorem cutS_zero (s : List UInt8) (b : Nat) : cutS s 0 b = s.take b := by simp [cutS]
/-- Two tokens that follow one another. -/
theorem Cuts.at {s : List UInt8} {a : Nat} {l : List Tok} (h : Cuts s a l) : ∀ {k : Nat} {p : Tok}, l[k]? = some p → p.pos < nextPos s (l.drop (k + 1)) ∧ nextPos s (l.drop (k + 1)) ≤ s.length := by
  induction h with
  | last => intro k p hp; simp at hp
  | @tok a n b t nt l ha e h35 hbl hnb hb hs hnt hc ih =>
    intro k p hp
    have bd := tokAt_bd ha e
    cases k with
    | zero =>
      simp at hp
      subst hp
      rw [List.drop_succ_cons, List.drop_zero, hc.pos]
      omega
    | succ k => exact ih (by simpa using hp)
theorem next_tok {s : List UInt8} {l : List Tok} {k : Nat} (hk : k ≤ l.length) : ∃ q, (l ++ [⟨6, [], 0, s.length⟩])[k]? = some q ∧ q.pos = nextPos s (l.drop k) := by
  rcases Nat.lt_or_ge k l.length with h | h
  · refine ⟨l[k], by rw [List.getElem?_append_left h, List.getElem?_eq_getElem h], ?_⟩
    rw [List.drop_eq_getElem_cons h]
    rfl
  · obtain rfl : k = l.length := by omega
    refine ⟨⟨6, [], 0, s.length⟩, by simp, ?_⟩
    rw [List.drop_length]
    rfl
theorem glue_step {s : List UInt8} {sep : Nat → List UInt8} {l : List Tok} {k : Nat} {p : Tok} (h : l[k]? = some p) : glue s sep k (l.drop k) = cutS s p.pos (nextPos s (l.drop (k + 1))) ++ sep k ++ glue s sep (k + 1) (l.drop (k + 1)) := by
  obtain ⟨hk, rfl⟩ := List.getElem?_eq_some_iff.1 h
  rw [List.drop_eq_getElem_cons hk, glue]
theorem glue_len {s : List UInt8} {sep : Nat → List UInt8} {c : Nat} (hsep : ∀ i, (sep i).length ≤ c) {a : Nat} {l : List Tok} (h : Cuts s a l) : ∀ i, (glue s sep i l).length ≤ s.length - a + c * l.length := by
  induction h with
  | last => intro i; rw [glue]; simp
  | @tok a n b t nt l ha e h35 hbl hnb hb hs hnt hc ih =>
    intro i
    have bd := tokAt_bd ha e
    have h1 := ih (i + 1)
    have h2 := hsep i
    rw [glue, hc.pos, bd.2.2, List.length_append, List.length_append, cutS_len hb, List.length_cons, Nat.mul_add]
    omega
/-- The tokens of a source, what stands ahead of the first, and their pieces. -/
theorem lexed_cuts {s : List UInt8} {l : List Tok} (h : lexed s = .inr l) : ∃ b nt ts, b ≤ s.length ∧ skipB false (cutS s 0 b) = some nt ∧ Cuts s b ts ∧ l = ts ++ [⟨6, [], 0, s.length⟩] := by
  obtain ⟨h1, h2⟩ := lexed_inr h
  obtain ⟨b, nt, ts, _, g2, g3, _, g5, g6⟩ := cuts_of h2 (Nat.zero_le _)
  exact ⟨b, nt, ts, g2, g3, g5, by simpa using g6⟩
def sepA : Nat → List UInt8 := fun _ => [10, 32]
theorem sepA_ok (i : Nat) : Sep (sepA i) := ⟨[32], rfl, rfl⟩
theorem glue_lexed {s : List UInt8} {sep : Nat → List UInt8} (hsep : ∀ i, Sep (sep i)) {a : Nat} {l : List Tok} (h : Cuts s a l) (h8 : (glue s sep 0 l).length ≤ 8192) :
    ∃ r, lexed (glue s sep 0 l) = .inr (r ++ [⟨6, [], 0, (glue s sep 0 l).length⟩]) ∧ r.map core = l.map core := by
  obtain ⟨r, r1, r2⟩ := glue_toks hsep h (glue s sep 0 l) 0 (2 * (glue s sep 0 l).length + 2) 0 [] rfl (Nat.zero_le _) (by omega)
  exact ⟨r, lexed_toks h8 (by rw [toks, r1]; simp), r2⟩
theorem el_bl {S : ByteArray} {k : Nat} (h : k < S.size) (h2 : k < (bl S).length) : ((bl S)[k]).toNat = S[k].toNat := by
  have h1 := byteAt_lt h2
  rw [byteAt_ba h] at h1
  exact h1.symm
end Go.Proofs.YtlohpplpnddfaaaDoor
namespace Go.Proofs.YtlohpplpnddfaaaDoor
open Go.RowKit Go.Sort

/-- append(x, y...) where x is the call's own and y holds nothing. -/
theorem wpList_append_own_zero {P : Program} {w : World} {ops : Array Oper} {rest : List Oper} {o : Oper} {a : Act} {Q : Exit → Act → World → Prop} (hgd : o.guard = none) (s x : Operand) (t : TypeId)
    (ho : o.op = .call { callee := .builtin .append, args := #[s, x], argTypes := #[t, t] })
    (base : Nat) (e : TypeId) (i : TypeInfo) (size : Nat) (ht : P.underlying t = some (.slice e)) (hi : P.info? e = some i)
    (v : Value) (n : Nat) (xs : List Value) (ad : Addr) (c : Nat) (hs : a.eval s = v) (hown : w.ownsRow base e size v n xs) (hx : a.eval x = .slice (some ad) 0 c)
    (h : wpList P ops Q rest (a.put o.dst v) w) : wpList P ops Q (o :: rest) a w := by
  refine wpList_plain hgd fun K hK => ?_
  have hrun : (Builtin.append_ #[t, t] o.type #[v, .slice (some ad) 0 c]).run P w = .ok v w := by
    rcases hown.2 with ⟨rfl, rfl⟩ | ⟨g, cap, cur, rfl, _, _, hnc, _⟩
    · simp [Builtin.append_, run_underlying ht, sizeOf, typeInfo, hi, Builtin.lenOf, Builtin.firstCells, loadCells, loadCellsFrom]
    · simp [Builtin.append_, run_underlying ht, sizeOf, typeInfo, hi, Builtin.lenOf, Builtin.firstCells, hnc, storeCells, loadCells, loadCellsFrom]
  unfold Oper.wp
  simp [execOp, ho, resolve, invoke, builtin, hs, hx, hrun, Result.andThen]
  exact hK _ _ h
theorem lexed_ends {s : List UInt8} {l : List Tok} (h : lexed s = .inr l) : ∃ a, l = a ++ [⟨6, [], 0, s.length⟩] := by
  obtain ⟨h1, h2⟩ := lexed_inr h
  obtain ⟨a', g', e1, e2, e3⟩ := toks_go_ext (x := []) (g := 2 * s.length + 4) h2 (by omega) (by simp; omega)
  exact ⟨a', e1⟩
theorem bl_add (A B : ByteArray) : bl (A ++ B) = bl A ++ bl B := by simp [bl, ByteArray.data_append]
theorem toksGo_len {s : List UInt8} : ∀ {f a : Nat} {l r : List Tok}, toksGo s f a l = .inr r → a ≤ s.length → r.length + a ≤ l.length + s.length + 1 := by
  intro f
  induction f with
  | zero => intro a l r h; cases h
  | succ f ih =>
    intro a l r h ha
    rw [toksGo] at h
    split at h
    · have e := Sum.inr.inj h
      subst e
      simp
      omega
    split at h
    · next h1 h35 =>
      have b := noteEnd_bd (s := s) (a := a) (by omega) (by omega)
      have := ih h b.2
      omega
    split at h
    · have := ih h (by omega)
      omega
    split at h
    · cases h
    · next h1 _ _ t n e =>
      have b := tokAt_bd (by omega) e
      have := ih h b.2.1
      simp at this
      omega
theorem lexed_len {s : List UInt8} {l : List Tok} (h : lexed s = .inr l) : l.length ≤ s.length + 1 ∧ s.length ≤ 8192 := by
  obtain ⟨h1, h2⟩ := lexed_inr h
  have := toksGo_len h2 (by omega)
  simp at this
  omega
theorem wrap_len {n : Nat} (h : n ≤ 8192) : wrap64 (n : Int) = n := by unfold wrap64; omega
theorem len_in {n c : Nat} (h : n + 1 ≤ c) : (0 : Int) ≤ (n : Int) ∧ (n : Int) ≤ (c : Int) := by omega
theorem add_at (g j : Nat) : (⟨g, 0, none⟩ : Addr).add j = ⟨g, j, none⟩ := by unfold Addr.add; split <;> simp_all
theorem tok_news {w : World} {B g cap : Nat} {a b : List Tok} (h : w.ownsRow B 53 7 (.slice (some ⟨g, 0, none⟩) (a ++ b).length cap) (a ++ b).length (tokCells (a ++ b))) : ∀ j u, (tokCells a)[j]? = some u → w.cell? ((⟨g, 0, none⟩ : Addr).add j) = some u := fun j u hu => by
  have hj : j < (tokCells a).length := (List.getElem?_eq_some_iff.1 hu).1
  have hjl := tokCells_len a
  rw [add_at, h.cellAt j (by rw [List.length_append]; omega), tokCells_append, List.getElem?_append_left hj, hu]
theorem tok_one : ∀ l : List Tok, ∀ u ∈ tokCells l, u.oneCell' = true := by
  intro l
  induction l with
  | nil => intro u hu; cases hu
  | cons t l ih =>
    intro u hu
    rw [tokCells, List.mem_append] at hu
    rcases hu with hu | hu
    · simp only [tokC, List.mem_cons, List.not_mem_nil, or_false] at hu
      rcases hu with rfl | rfl | rfl | rfl | rfl | rfl | rfl <;> rfl
    · exact ih u hu
theorem toksGo_pos {s : List UInt8} : ∀ {f a : Nat} {l r : List Tok}, toksGo s f a l = .inr r → a ≤ s.length → (∀ t ∈ l, t.pos ≤ s.length) → ∀ t ∈ r, t.pos ≤ s.length := by
  intro f
  induction f with
  | zero => intro a l r h; cases h
  | succ f ih =>
    intro a l r h ha hl
    rw [toksGo] at h
    split at h
    · have e := Sum.inr.inj h
      subst e
      intro t ht
      rw [List.mem_append] at ht
      rcases ht with ht | ht
      · exact hl t ht
      · simp at ht; subst ht; exact Nat.le_refl _
    split at h
    · next h1 h35 =>
      have b := noteEnd_bd (s := s) (a := a) (by omega) (by omega)
      exact ih h b.2 hl
    split at h
    · exact ih h (by omega) hl
    split at h
    · cases h
    · next h1 _ _ t n e =>
      have b := tokAt_bd (by omega) e
      refine ih h b.2.1 ?_
      intro u hu
      rw [List.mem_append] at hu
      rcases hu with hu | hu
      · exact hl u hu
      · simp at hu; subst hu; omega
theorem lexed_pos {s : List UInt8} {l : List Tok} (h : lexed s = .inr l) : ∀ t ∈ l, t.pos ≤ s.length := by
  obtain ⟨h1, h2⟩ := lexed_inr h
  exact toksGo_pos h2 (by omega) (fun t ht => by simp at ht)
theorem join_step {w : World} {B m k z : Nat} {v : Value} {la lb : List Tok} {p : Tok} {x : Int} (hp : lb[k]? = some p) (hx : x = ((z + 1 + p.pos : Nat) : Int))
    (h : w.ownsRow B 53 7 v (m + k + 1) (tokCells (la ++ (lb.take k).map (shTok (z + 1))) ++ [.int .i64 (p.kind : Int), .string (mkS p.text), .int .u64 (wd p.cls 0), .int .u64 (wd p.cls 1), .int .u64 (wd p.cls 2), .int .u64 (wd p.cls 3), .int .i64 x])) :
    w.ownsRow B 53 7 v (m + (k + 1)) (tokCells (la ++ (lb.take (k + 1)).map (shTok (z + 1)))) := by
  subst hx
  rw [List.take_add_one, hp, List.map_append, ← List.append_assoc, tokCells_append]
  exact h
theorem owns_cap {w : World} {base : Nat} {e : TypeId} {size g n cap : Nat} {xs : List Value} (h : w.ownsRow base e size (.slice (some ⟨g, 0, none⟩) n cap) n xs) : n ≤ cap := by
  rcases h.2 with ⟨h1, _⟩ | ⟨g1, cap1, cur, h1, _, _, h2, _⟩
  · cases h1
  · cases h1; exact h2
end Go.Proofs.YtlohpplpnddfaaaDoor
namespace Go.Proofs.YtlohpplpnddfaaaDoor
open Go.RowKit

theorem isName_spec {s : List UInt8} (h : isName s = true) : 0 < s.length ∧ s.length ≤ 32 ∧ nameLen s 0 = s.length := by
  unfold isName at h
  simp at h
  exact ⟨by have := h.1.1; exact List.length_pos_iff.2 this, h.1.2, h.2⟩
theorem isName_of {s : List UInt8} (h0 : 0 < s.length) (h1 : s.length ≤ 32) (h2 : nameLen s 0 = s.length) : isName s = true := by
  unfold isName
  simp [h1, h2]
  exact List.ne_nil_of_length_pos h0
theorem cont_letter {b : Nat} (h : cont 0 b = true) : b ≠ 35 ∧ isBlank b = false := by
  simp [cont, isLet] at h
  unfold isBlank
  simp
  omega
theorem named_toks {s : List UInt8} (h : isName s = true) : toks s = .inr [⟨1, s, 0, 0⟩, ⟨6, [], 0, s.length⟩] := by
  obtain ⟨h0, h1, h2⟩ := isName_spec h
  have hc := (nameLen_spec s 0).1 0 (by omega)
  obtain ⟨k1, k2⟩ := cont_letter hc
  simp only [Nat.add_zero] at k1 k2
  have ht : tokAt s 0 = .inr (⟨1, s, 0, 0⟩, s.length) := by
    rw [tokAt, h2, if_neg (by omega), if_pos h0, List.drop_zero, List.take_length, Nat.zero_add]
  have e : 2 * s.length + 2 = (2 * s.length + 1) + 1 := by omega
  have e2 : 2 * s.length + 1 = (2 * s.length) + 1 := rfl
  rw [toks, e, toks_on (by omega) k1 k2 ht, e2, toks_end (Nat.le_refl _)]
  rfl
/-- What a name token is. -/
def NameTok (s : List UInt8) (t : Tok) : Prop := t.kind = 1 → ∃ p, p ≤ s.length ∧ 0 < nameLen s p ∧ nameLen s p ≤ 32 ∧ t.text = (s.drop p).take (nameLen s p)
theorem tokAt_name {s : List UInt8} {a n : Nat} {t : Tok} (ha : a < s.length) (e : tokAt s a = .inr (t, n)) : NameTok s t := by
  intro hk
  unfold tokAt at e
  split at e
  · cases e
  split at e
  · simp at e; obtain ⟨e1, _⟩ := e; subst e1; exact ⟨a, by omega, by omega, by omega, rfl⟩
  split at e
  · simp at e; obtain ⟨e1, _⟩ := e; subst e1; simp at hk
  split at e
  · simp at e; obtain ⟨e1, _⟩ := e; subst e1; simp at hk
  split at e
  · split at e
    · cases e
    · simp at e; obtain ⟨e1, _⟩ := e; subst e1; simp at hk
  split at e
  · split at e
    · cases e
    · simp at e; obtain ⟨e1, _⟩ := e; subst e1; simp at hk
  · cases e
theorem toksGo_name {s : List UInt8} : ∀ {f a : Nat} {l r : List Tok}, toksGo s f a l = .inr r → (∀ t ∈ l, NameTok s t) → ∀ t ∈ r, NameTok s t := by
  intro f
  induction f with
  | zero => intro a l r h; cases h
  | succ f ih =>
    intro a l r h hl
    rw [toksGo] at h
    split at h
    · have e := Sum.inr.inj h
      subst e
      intro t ht
      rw [List.mem_append] at ht
      rcases ht with ht | ht
      · exact hl t ht
      · simp at ht; subst ht; intro hk; simp at hk
    split at h
    · exact ih h hl
    split at h
    · exact ih h hl
    split at h
    · cases h
    · next ha _ _ _ t n he =>
      refine ih h ?_
      intro u hu
      rw [List.mem_append] at hu
      rcases hu with hu | hu
      · exact hl u hu
      · simp at hu; subst hu; exact tokAt_name (by omega) he
theorem toks_named {s : List UInt8} {t : Tok} {l : List Tok} (h : toks s = .inr (t :: l)) (hk : t.kind = 1) (ht : t.text = s) : isName s = true := by
  obtain ⟨p, h1, h2, h3, h4⟩ := toksGo_name h (fun t ht => by simp at ht) t List.mem_cons_self hk
  have hin := nameLen_in s p h1
  have hl : s.length = nameLen s p := by
    have := congrArg List.length h4
    rw [ht] at this
    simp at this
    omega
  obtain rfl : p = 0 := by omega
  exact isName_of (by omega) (by omega) hl.symm
theorem named_more {s : List UInt8} (h : isName s = true) : isName (s ++ [120]) = decide (s.length < 32) := by
  obtain ⟨h0, h1, h2⟩ := isName_spec h
  have hs := nameLen_spec s 0
  rw [h2] at hs
  have hn : nameLen (s ++ [120]) 0 = s.length + 1 := by
    apply nameLen_is
    · intro j hj
      rcases Nat.lt_or_ge j s.length with hj2 | hj2
      · have := hs.1 j hj2
        rw [Nat.zero_add] at this ⊢
        rw [byteAt, List.getElem?_append_left hj2]
        exact this
      · obtain rfl : j = s.length := by omega
        rw [Nat.zero_add, byteAt, List.getElem?_append_right (Nat.le_refl _)]
        simp [cont, isLet]
    · rw [byteAt_ge (by simp)]
      simp [cont, isLet, isDig]
  unfold isName
  rw [hn]
  simp
  omega
end Go.Proofs.YtlohpplpnddfaaaDoor
