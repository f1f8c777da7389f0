/- Reading the same tokens, elsewhere and with other tokens behind them: plain. | Reading the same tokens elsewhere: a part, one; all of them. | The tokens of a tree's text are read as the tree, if not too many parentheses are open: plain. -/
import Derived.Test.YtjlcoldnhbkcgaaGreatDoorG25
import Derived.Test.YtjlcoldnhbkcgaaGreatDoorG39
namespace Go.Proofs.YtjlcoldnhbkcgaaGreatDoor
open Go.RowKit Go.Sort

/-- A token without its place. -/
def bareT (t : Tok) : Nat × List UInt8 × BitVec 256 := (t.kind, t.text, t.cls)
theorem bare_cases {T T' : List Tok} (h : T.map bareT = T'.map bareT) : (T = [] ∧ T' = []) ∨ ∃ t t' T1 T1', T = t :: T1 ∧ T' = t' :: T1' ∧ t.kind = t'.kind ∧ t.text = t'.text ∧ t.cls = t'.cls ∧ T1.map bareT = T1'.map bareT := by
  cases T with
  | nil => cases T' with
    | nil => exact .inl ⟨rfl, rfl⟩
    | cons _ _ => simp at h
  | cons t T1 => cases T' with
    | nil => simp at h
    | cons t' T1' =>
      simp only [List.map_cons, List.cons.injEq, bareT, Prod.mk.injEq] at h
      exact .inr ⟨t, t', T1, T1', rfl, rfl, h.1.1, h.1.2.1, h.1.2.2, h.2⟩
/-- Tokens at which a choice stops. -/
structure StopT (S : List Tok) : Prop where
  sl : sgnOf S ≠ [47]
  pre : preK (sgnOf S) = 0
  suf : sufK (sgnOf S) = 0
  arrow : kindT S ≠ 2
  one : ∀ f d, pOne (f + 1) d S = some (.ok none S)
theorem end_stop {e : Tok} (he : e.kind = 6) : StopT [e] := by
  have hs : sgnOf [e] = [] := by rw [sgnOf, if_neg (by omega)]
  refine ⟨by rw [hs]; decide, by rw [hs]; rfl, by rw [hs]; rfl, by show e.kind ≠ 2; omega, fun f d => ?_⟩
  rw [pOne, if_neg (by omega), if_neg (by omega), if_neg (by omega), if_neg (by omega), if_neg (by omega)]
theorem sgn_bare {T T' S S' : List Tok} (h : T.map bareT = T'.map bareT) : (T = [] ∧ T' = []) ∨ (T ≠ [] ∧ sgnOf (T ++ S) = sgnOf (T' ++ S')) := by
  rcases bare_cases h with h | ⟨t, t', T1, T1', rfl, rfl, h1, h2, _, _⟩
  · exact .inl h
  · exact .inr ⟨by simp, by simp only [List.cons_append, sgnOf, h1, h2]⟩
/-- The same of what may come. -/
def SameO : Option Nd → Option Nd → Prop
  | none, none => True
  | some n, some m => SameN false n m
  | _, _ => False
theorem SameN.join {k : Nat} : ∀ {l l' : List Nd}, SameL false l l' → 0 < l.length → SameN false (joinN k l) (joinN k l')
  | [], _, _, h0 => by simp at h0
  | [_], _, .cons h1 .nil, _ => h1
  | _ :: _ :: _, _, .cons h1 (.cons h2 h3), _ => .mk (fun h => by cases h) (.cons h1 (.cons h2 h3))
/-- No end among them. -/
def NoEnd (T : List Tok) : Prop := ∀ t ∈ T, t.kind ≠ 6
theorem NoEnd.tail {t : Tok} {T : List Tok} (h : NoEnd (t :: T)) : NoEnd T := fun u hu => h u (by simp [hu])
theorem kind_behind {T1 T1' : List Tok} {e : Tok} {S : List Tok} (he : e.kind = 6) (hS : StopT S) (hc : T1.map bareT = T1'.map bareT) : kindT (T1 ++ [e]) = 2 ↔ kindT (T1' ++ S) = 2 := by
  rcases bare_cases hc with ⟨rfl, rfl⟩ | ⟨t, t', U, U', rfl, rfl, h1, _, _, _⟩
  · have := hS.arrow
    simp only [List.nil_append]
    show e.kind = 2 ↔ _
    omega
  · show t.kind = 2 ↔ t'.kind = 2
    omega
/-- Reading tokens up to an end, and the like tokens, as deep or deeper, up to others at which a choice stops. -/
structure Swap (f : Nat) (e : Tok) (S : List Tok) : Prop where
  choice : ∀ {d d' : Nat} {T T' r : List Tok} {n : Nd}, NoEnd T → T.map bareT = T'.map bareT → d ≤ d' → pChoice f d (T ++ [e]) = some (.ok n r) → ∃ T2, r = T2 ++ [e] ∧ NoEnd T2 ∧ ((d ≠ d' ∧ ∃ x, pChoice f d' (T' ++ S) = some (.err 2 x)) ∨ ∃ m T2', pChoice f d' (T' ++ S) = some (.ok m (T2' ++ S)) ∧ T2.map bareT = T2'.map bareT ∧ SameN false n m)
  alts : ∀ {d d' : Nat} {T T' r : List Tok} {n : Nd} {l l' : List Nd}, NoEnd T → T.map bareT = T'.map bareT → d ≤ d' → SameL false l l' → 0 < l.length → pAlts f d (T ++ [e]) l = some (.ok n r) → ∃ T2, r = T2 ++ [e] ∧ NoEnd T2 ∧ ((d ≠ d' ∧ ∃ x, pAlts f d' (T' ++ S) l' = some (.err 2 x)) ∨ ∃ m T2', pAlts f d' (T' ++ S) l' = some (.ok m (T2' ++ S)) ∧ T2.map bareT = T2'.map bareT ∧ SameN false n m)
  parts : ∀ {d d' : Nat} {T T' r : List Tok} {n : Nd} {l l' : List Nd}, NoEnd T → T.map bareT = T'.map bareT → d ≤ d' → SameL false l l' → pParts f d (T ++ [e]) l = some (.ok n r) → ∃ T2, r = T2 ++ [e] ∧ NoEnd T2 ∧ ((d ≠ d' ∧ ∃ x, pParts f d' (T' ++ S) l' = some (.err 2 x)) ∨ ∃ m T2', pParts f d' (T' ++ S) l' = some (.ok m (T2' ++ S)) ∧ T2.map bareT = T2'.map bareT ∧ SameN false n m)
  part : ∀ {d d' : Nat} {T T' r : List Tok} {n : Option Nd}, NoEnd T → T.map bareT = T'.map bareT → d ≤ d' → pPart f d (T ++ [e]) = some (.ok n r) → ∃ T2, r = T2 ++ [e] ∧ NoEnd T2 ∧ ((d ≠ d' ∧ ∃ x, pPart f d' (T' ++ S) = some (.err 2 x)) ∨ ∃ m T2', pPart f d' (T' ++ S) = some (.ok m (T2' ++ S)) ∧ T2.map bareT = T2'.map bareT ∧ SameO n m)
  one : ∀ {d d' : Nat} {T T' r : List Tok} {n : Option Nd}, NoEnd T → T.map bareT = T'.map bareT → d ≤ d' → pOne f d (T ++ [e]) = some (.ok n r) → ∃ T2, r = T2 ++ [e] ∧ NoEnd T2 ∧ ((d ≠ d' ∧ ∃ x, pOne f d' (T' ++ S) = some (.err 2 x)) ∨ ∃ m T2', pOne f d' (T' ++ S) = some (.ok m (T2' ++ S)) ∧ T2.map bareT = T2'.map bareT ∧ SameO n m)
theorem swap_choice {f : Nat} {e : Tok} {S : List Tok} (ih : Swap f e S) {d d' : Nat} {T T' r : List Tok} {n : Nd} (hT : NoEnd T) (hc : T.map bareT = T'.map bareT) (hd : d ≤ d') (h : pChoice (f + 1) d (T ++ [e]) = some (.ok n r)) : ∃ T2, r = T2 ++ [e] ∧ NoEnd T2 ∧ ((d ≠ d' ∧ ∃ x, pChoice (f + 1) d' (T' ++ S) = some (.err 2 x)) ∨ ∃ m T2', pChoice (f + 1) d' (T' ++ S) = some (.ok m (T2' ++ S)) ∧ T2.map bareT = T2'.map bareT ∧ SameN false n m) := by
  rw [pChoice] at h
  rw [pChoice]
  cases e1 : pParts f d (T ++ [e]) [] with
  | none => rw [e1] at h; cases h
  | some x =>
    rw [e1] at h
    cases x with
    | err c x => cases h
    | ok n1 r1 =>
      obtain ⟨T1, rfl, hT1, g⟩ := ih.parts hT hc hd .nil e1
      rcases g with ⟨hne, x, g⟩ | ⟨m, T1', g, hc1, hs⟩
      · obtain ⟨T2, rfl, hT2, _⟩ := ih.alts (d' := d) hT1 (rfl : T1.map bareT = T1.map bareT) (Nat.le_refl _) (SameL.refl false [n1]) (by simp) h
        exact ⟨T2, rfl, hT2, .inl ⟨hne, x, by rw [g]⟩⟩
      · rw [g]
        exact ih.alts hT1 hc1 hd (.cons hs .nil) (by simp) h
theorem swap_alts {f : Nat} {e : Tok} {S : List Tok} (he : e.kind = 6) (hS : StopT S) (ih : Swap f e S) {d d' : Nat} {T T' r : List Tok} {n : Nd} {l l' : List Nd} (hT : NoEnd T) (hc : T.map bareT = T'.map bareT) (hd : d ≤ d') (hl : SameL false l l') (h0 : 0 < l.length) (h : pAlts (f + 1) d (T ++ [e]) l = some (.ok n r)) : ∃ T2, r = T2 ++ [e] ∧ NoEnd T2 ∧ ((d ≠ d' ∧ ∃ x, pAlts (f + 1) d' (T' ++ S) l' = some (.err 2 x)) ∨ ∃ m T2', pAlts (f + 1) d' (T' ++ S) l' = some (.ok m (T2' ++ S)) ∧ T2.map bareT = T2'.map bareT ∧ SameN false n m) := by
  rw [pAlts] at h
  rw [pAlts]
  rcases sgn_bare (S := [e]) (S' := S) hc with ⟨rfl, rfl⟩ | ⟨hne, hs⟩
  · simp only [List.nil_append] at h ⊢
    rw [if_neg (end_stop he).sl] at h
    rw [if_neg hS.sl]
    have e2 := Option.some.inj h
    injection e2 with e3 e4
    subst e3 e4
    exact ⟨[], rfl, hT, .inr ⟨_, [], rfl, rfl, SameN.join hl h0⟩⟩
  · rw [← hs]
    split at h
    · next h47 =>
      rw [if_pos h47]
      obtain ⟨t, t', T1, T1', rfl, rfl, _, _, _, hc1⟩ := (bare_cases hc).resolve_left (fun h => hne h.1)
      simp only [List.cons_append, List.tail_cons] at h ⊢
      cases e1 : pParts f d (T1 ++ [e]) [] with
      | none => rw [e1] at h; cases h
      | some x =>
        rw [e1] at h
        cases x with
        | err c x => cases h
        | ok n1 r1 =>
          obtain ⟨T2, rfl, hT2, g⟩ := ih.parts hT.tail hc1 hd .nil e1
          rcases g with ⟨hdd, x, g⟩ | ⟨m, T2', g, hc2, hs2⟩
          · obtain ⟨T3, rfl, hT3, _⟩ := ih.alts (d' := d) hT2 (rfl : T2.map bareT = T2.map bareT) (Nat.le_refl _) (SameL.refl false (l ++ [n1])) (by simp) h
            exact ⟨T3, rfl, hT3, .inl ⟨hdd, x, by rw [g]⟩⟩
          · rw [g]
            exact ih.alts hT2 hc2 hd (hl.snoc hs2) (by simp) h
    · next h47 =>
      rw [if_neg h47]
      have e2 := Option.some.inj h
      injection e2 with e3 e4
      subst e3 e4
      exact ⟨T, rfl, hT, .inr ⟨_, T', rfl, hc, SameN.join hl h0⟩⟩
theorem swap_parts {f : Nat} {e : Tok} {S : List Tok} (ih : Swap f e S) {d d' : Nat} {T T' r : List Tok} {n : Nd} {l l' : List Nd} (hT : NoEnd T) (hc : T.map bareT = T'.map bareT) (hd : d ≤ d') (hl : SameL false l l') (h : pParts (f + 1) d (T ++ [e]) l = some (.ok n r)) : ∃ T2, r = T2 ++ [e] ∧ NoEnd T2 ∧ ((d ≠ d' ∧ ∃ x, pParts (f + 1) d' (T' ++ S) l' = some (.err 2 x)) ∨ ∃ m T2', pParts (f + 1) d' (T' ++ S) l' = some (.ok m (T2' ++ S)) ∧ T2.map bareT = T2'.map bareT ∧ SameN false n m) := by
  rw [pParts] at h
  rw [pParts]
  cases e1 : pPart f d (T ++ [e]) with
  | none => rw [e1] at h; cases h
  | some x =>
    rw [e1] at h
    cases x with
    | err c x => cases h
    | ok a r1 =>
      obtain ⟨T1, rfl, hT1, g⟩ := ih.part hT hc hd e1
      cases a with
      | none =>
        have e2 := Option.some.inj h
        injection e2 with e3 e4
        subst e3 e4
        rcases g with ⟨hdd, x, g⟩ | ⟨m, T1', g, hc1, hs⟩
        · exact ⟨T1, rfl, hT1, .inl ⟨hdd, x, by rw [g]⟩⟩
        · cases m with
          | some m => exact hs.elim
          | none =>
            refine ⟨T1, rfl, hT1, .inr ⟨_, T1', by rw [g], hc1, ?_⟩⟩
            rw [← hl.length]
            split
            · exact .mk (fun h => by cases h) .nil
            · exact SameN.join hl (by omega)
      | some n1 =>
        rcases g with ⟨hdd, x, g⟩ | ⟨m, T1', g, hc1, hs⟩
        · obtain ⟨T3, rfl, hT3, _⟩ := ih.parts (d' := d) hT1 (rfl : T1.map bareT = T1.map bareT) (Nat.le_refl _) (SameL.refl false (l ++ [n1])) h
          exact ⟨T3, rfl, hT3, .inl ⟨hdd, x, by rw [g]⟩⟩
        · cases m with
          | none => exact hs.elim
          | some m =>
            rw [g]
            exact ih.parts hT1 hc1 hd (hl.snoc hs) h
end Go.Proofs.YtjlcoldnhbkcgaaGreatDoor
namespace Go.Proofs.YtjlcoldnhbkcgaaGreatDoor
open Go.RowKit Go.Sort

theorem pre_bare {T T' S : List Tok} {e : Tok} (he : e.kind = 6) (hS : StopT S) (hc : T.map bareT = T'.map bareT) : preK (sgnOf (T ++ [e])) = preK (sgnOf (T' ++ S)) := by
  rcases sgn_bare (S := [e]) (S' := S) hc with ⟨rfl, rfl⟩ | ⟨_, hs⟩
  · simp only [List.nil_append]; rw [(end_stop he).pre, hS.pre]
  · rw [hs]
theorem suf_bare {T T' S : List Tok} {e : Tok} (he : e.kind = 6) (hS : StopT S) (hc : T.map bareT = T'.map bareT) : sufK (sgnOf (T ++ [e])) = sufK (sgnOf (T' ++ S)) := by
  rcases sgn_bare (S := [e]) (S' := S) hc with ⟨rfl, rfl⟩ | ⟨_, hs⟩
  · simp only [List.nil_append]; rw [(end_stop he).suf, hS.suf]
  · rw [hs]
theorem SameN.wrap {k p p' : Nat} {n m : Nd} (h : SameN false n m) : SameN false (.mk k [] 0 [n] p) (.mk k [] 0 [m] p') := .mk (fun h => by cases h) (.cons h .nil)
/-- What a sign makes of a node. -/
def signed (k : Nat) (n : Nd) (p : Nat) : Nd := if k = 0 then n else .mk k [] 0 [n] p
theorem SameN.signed {k p p' : Nat} {n m : Nd} (h : SameN false n m) : SameN false (signed k n p) (signed k m p') := by
  unfold Go.Proofs.YtjlcoldnhbkcgaaGreatDoor.signed
  split
  · exact h
  · exact h.wrap
theorem part_some {f d : Nat} {rs rs2 : List Tok} {n : Nd} (h : pOne f d (if preK (sgnOf rs) = 0 then rs else rs.tail) = some (.ok (some n) rs2)) : pPart (f + 1) d rs = some (.ok (some (signed (preK (sgnOf rs)) (signed (sufK (sgnOf rs2)) n n.pos) (posT rs))) (if sufK (sgnOf rs2) = 0 then rs2 else rs2.tail)) := by
  rw [pPart, h]; rfl
theorem part_err {f d c x : Nat} {rs : List Tok} (h : pOne f d (if preK (sgnOf rs) = 0 then rs else rs.tail) = some (.err c x)) : pPart (f + 1) d rs = some (.err c x) := by rw [pPart, h]
theorem swap_part {f : Nat} {e : Tok} {S : List Tok} (he : e.kind = 6) (hS : StopT S) (ih : Swap f e S) {d d' : Nat} {T T' r : List Tok} {n : Option Nd} (hT : NoEnd T) (hc : T.map bareT = T'.map bareT) (hd : d ≤ d') (h : pPart (f + 1) d (T ++ [e]) = some (.ok n r)) : ∃ T2, r = T2 ++ [e] ∧ NoEnd T2 ∧ ((d ≠ d' ∧ ∃ x, pPart (f + 1) d' (T' ++ S) = some (.err 2 x)) ∨ ∃ m T2', pPart (f + 1) d' (T' ++ S) = some (.ok m (T2' ++ S)) ∧ T2.map bareT = T2'.map bareT ∧ SameO n m) := by
  have hp := pre_bare he hS hc
  -- the tokens behind a sign ahead
  obtain ⟨U, U', hU, hcU, eU, eU'⟩ : ∃ U U', NoEnd U ∧ U.map bareT = U'.map bareT ∧ (if preK (sgnOf (T ++ [e])) = 0 then T ++ [e] else (T ++ [e]).tail) = U ++ [e] ∧ (if preK (sgnOf (T' ++ S)) = 0 then T' ++ S else (T' ++ S).tail) = U' ++ S := by
    by_cases h0 : preK (sgnOf (T ++ [e])) = 0
    · exact ⟨T, T', hT, hc, by rw [if_pos h0], by rw [if_pos (by rw [← hp]; exact h0)]⟩
    · rcases bare_cases hc with ⟨rfl, rfl⟩ | ⟨t, t', T1, T1', rfl, rfl, _, _, _, hc1⟩
      · exact absurd (by simpa using (end_stop he).pre) h0
      · exact ⟨T1, T1', hT.tail, hc1, by rw [if_neg h0]; rfl, by rw [if_neg (by rw [← hp]; exact h0)]; rfl⟩
  cases e1 : pOne f d (U ++ [e]) with
  | none => rw [pPart, eU, e1] at h; cases h
  | some x =>
    cases x with
    | err c x => rw [part_err (by rw [eU]; exact e1)] at h; cases h
    | ok a r1 =>
      obtain ⟨T1, rfl, hT1, g⟩ := ih.one hU hcU hd e1
      cases a with
      | none =>
        rw [pPart, eU, e1] at h
        simp only at h
        by_cases h0 : preK (sgnOf (T ++ [e])) = 0
        · rw [if_pos h0] at h
          have e2 := Option.some.inj h
          injection e2 with e3 e4
          subst e3 e4
          rcases g with ⟨hdd, x, g⟩ | ⟨m, T1', g, hc1, hs⟩
          · exact ⟨T1, rfl, hT1, .inl ⟨hdd, x, part_err (by rw [eU']; exact g)⟩⟩
          · cases m with
            | some m => exact hs.elim
            | none =>
              refine ⟨T1, rfl, hT1, .inr ⟨none, T1', ?_, hc1, trivial⟩⟩
              rw [pPart, eU', g]
              simp only
              rw [if_pos (by rw [← hp]; exact h0)]
        · rw [if_neg h0] at h; cases h
      | some n1 =>
        rw [part_some (by rw [eU]; exact e1)] at h
        have e2 := Option.some.inj h
        injection e2 with e3 e4
        subst e3 e4
        rcases g with ⟨hdd, x, g⟩ | ⟨m, T1', g, hc1, hs⟩
        · obtain ⟨T3, e3, hT3⟩ : ∃ T3, (if sufK (sgnOf (T1 ++ [e])) = 0 then T1 ++ [e] else (T1 ++ [e]).tail) = T3 ++ [e] ∧ NoEnd T3 := by
            by_cases h0 : sufK (sgnOf (T1 ++ [e])) = 0
            · exact ⟨T1, by rw [if_pos h0], hT1⟩
            · cases T1 with
              | nil => exact absurd (by simpa using (end_stop he).suf) h0
              | cons t T1 => exact ⟨T1, by rw [if_neg h0]; rfl, hT1.tail⟩
          exact ⟨T3, e3, hT3, .inl ⟨hdd, x, part_err (by rw [eU']; exact g)⟩⟩
        · cases m with
          | none => exact hs.elim
          | some m =>
            have hsf := suf_bare he hS hc1
            have hs2 : SameN false n1 m := hs
            obtain ⟨T3, T3', e3, e3', hT3, hc3⟩ : ∃ T3 T3', (if sufK (sgnOf (T1 ++ [e])) = 0 then T1 ++ [e] else (T1 ++ [e]).tail) = T3 ++ [e] ∧ (if sufK (sgnOf (T1' ++ S)) = 0 then T1' ++ S else (T1' ++ S).tail) = T3' ++ S ∧ NoEnd T3 ∧ T3.map bareT = T3'.map bareT := by
              by_cases h0 : sufK (sgnOf (T1 ++ [e])) = 0
              · exact ⟨T1, T1', by rw [if_pos h0], by rw [if_pos (by rw [← hsf]; exact h0)], hT1, hc1⟩
              · rcases bare_cases hc1 with ⟨rfl, rfl⟩ | ⟨t, t', U1, U1', rfl, rfl, _, _, _, hcU1⟩
                · exact absurd (by simpa using (end_stop he).suf) h0
                · exact ⟨U1, U1', by rw [if_neg h0]; rfl, by rw [if_neg (by rw [← hsf]; exact h0)]; rfl, hT1.tail, hcU1⟩
            refine ⟨T3, e3, hT3, .inr ⟨_, T3', by rw [part_some (by rw [eU']; exact g), e3'], hc3, ?_⟩⟩
            rw [hp, hsf]
            exact (SameN.signed hs2).signed
theorem swap_one {f : Nat} {e : Tok} {S : List Tok} (he : e.kind = 6) (hS : StopT S) (ih : Swap f e S) {d d' : Nat} {T T' r : List Tok} {n : Option Nd} (hT : NoEnd T) (hc : T.map bareT = T'.map bareT) (hd : d ≤ d') (h : pOne (f + 1) d (T ++ [e]) = some (.ok n r)) : ∃ T2, r = T2 ++ [e] ∧ NoEnd T2 ∧ ((d ≠ d' ∧ ∃ x, pOne (f + 1) d' (T' ++ S) = some (.err 2 x)) ∨ ∃ m T2', pOne (f + 1) d' (T' ++ S) = some (.ok m (T2' ++ S)) ∧ T2.map bareT = T2'.map bareT ∧ SameO n m) := by
  rcases bare_cases hc with ⟨rfl, rfl⟩ | ⟨t, t', T1, T1', rfl, rfl, hk, ht, hcl, hc1⟩
  · simp only [List.nil_append] at h ⊢
    rw [(end_stop he).one] at h
    have e2 := Option.some.inj h
    injection e2 with e3 e4
    subst e3 e4
    exact ⟨[], rfl, hT, .inr ⟨none, [], hS.one f d', rfl, trivial⟩⟩
  · have hb := kind_behind he hS hc1
    rw [List.cons_append, pOne] at h
    rw [List.cons_append, pOne, ← hk, ← ht, ← hcl]
    have leaf : ∀ (k : Nat) (x : List UInt8), SameO (some (.mk k x t.cls [] t.pos)) (some (.mk k x t.cls [] t'.pos)) := fun k x => .mk (fun h => by cases h) .nil
    split at h
    · next h1 =>
      rw [if_pos h1]
      by_cases h2 : kindT (T1 ++ [e]) = 2
      · rw [if_pos h2] at h
        rw [if_pos (hb.1 h2)]
        have e2 := Option.some.inj h
        injection e2 with e3 e4
        subst e3 e4
        exact ⟨t :: T1, rfl, hT, .inr ⟨none, t' :: T1', rfl, hc, trivial⟩⟩
      · rw [if_neg h2] at h
        rw [if_neg (fun h => h2 (hb.2 h))]
        have e2 := Option.some.inj h
        injection e2 with e3 e4
        subst e3 e4
        exact ⟨T1, rfl, hT.tail, .inr ⟨_, T1', rfl, hc1, leaf 5 t.text⟩⟩
    next h1 =>
    rw [if_neg h1]
    split at h
    · next h3 =>
      rw [if_pos h3]
      have e2 := Option.some.inj h
      injection e2 with e3 e4
      subst e3 e4
      exact ⟨T1, rfl, hT.tail, .inr ⟨_, T1', rfl, hc1, leaf 2 t.text⟩⟩
    next h3 =>
    rw [if_neg h3]
    split at h
    · next h4 =>
      rw [if_pos h4]
      have e2 := Option.some.inj h
      injection e2 with e3 e4
      subst e3 e4
      exact ⟨T1, rfl, hT.tail, .inr ⟨_, T1', rfl, hc1, leaf 3 t.text⟩⟩
    next h4 =>
    rw [if_neg h4]
    split at h
    · next h5 =>
      rw [if_pos h5]
      have e2 := Option.some.inj h
      injection e2 with e3 e4
      subst e3 e4
      exact ⟨T1, rfl, hT.tail, .inr ⟨_, T1', rfl, hc1, leaf 4 []⟩⟩
    next h5 =>
    rw [if_neg h5]
    split at h
    · next h6 =>
      rw [if_pos h6]
      by_cases h24 : d = 24
      · rw [if_pos h24] at h; cases h
      · rw [if_neg h24] at h
        cases e1 : pChoice f (d + 1) (T1 ++ [e]) with
        | none => rw [e1] at h; cases h
        | some x =>
          rw [e1] at h
          cases x with
          | err c x => cases h
          | ok n1 r1 =>
            simp only at h
            by_cases h41 : sgnOf r1 = [41]
            · rw [if_pos h41] at h
              have e2 := Option.some.inj h
              injection e2 with e3 e4
              subst e3
              by_cases h24' : d' = 24
              · rw [if_pos h24']
                obtain ⟨U, rfl, hU, _⟩ := ih.choice (d' := d + 1) hT.tail (rfl : T1.map bareT = T1.map bareT) (Nat.le_refl _) e1
                cases U with
                | nil => rw [List.nil_append, sgnOf, if_neg (by omega)] at h41; cases h41
                | cons u U =>
                  refine ⟨U, by rw [← e4]; rfl, hU.tail, .inl ⟨by omega, _, rfl⟩⟩
              · rw [if_neg h24']
                obtain ⟨U, rfl, hU, g⟩ := ih.choice (d' := d' + 1) hT.tail hc1 (by omega) e1
                cases U with
                | nil => rw [List.nil_append, sgnOf, if_neg (by omega)] at h41; cases h41
                | cons u U =>
                  refine ⟨U, by rw [← e4]; rfl, hU.tail, ?_⟩
                  rcases g with ⟨hdd, x, g⟩ | ⟨m, U', g, hcU, hs⟩
                  · exact .inl ⟨by omega, x, by rw [g]⟩
                  · obtain ⟨u', U2', rfl, hcU2, hsg⟩ : ∃ u' U2', U' = u' :: U2' ∧ U.map bareT = U2'.map bareT ∧ sgnOf (u :: U ++ [e]) = sgnOf (u' :: U2' ++ S) := by
                      rcases bare_cases hcU with ⟨h, _⟩ | ⟨u1, u', U1, U2', h1, rfl, k1, k2, _, k3⟩
                      · cases h
                      · injection h1 with h1 h2
                        subst h1 h2
                        exact ⟨u', U2', rfl, k3, by simp only [List.cons_append, sgnOf, k1, k2]⟩
                    refine .inr ⟨some m, U2', ?_, hcU2, hs⟩
                    rw [g]
                    simp only
                    rw [if_pos (by rw [← hsg]; exact h41)]
                    rfl
            · rw [if_neg h41] at h; cases h
    next h6 =>
    rw [if_neg h6]
    have e2 := Option.some.inj h
    injection e2 with e3 e4
    subst e3 e4
    exact ⟨t :: T1, rfl, hT, .inr ⟨none, t' :: T1', rfl, hc, trivial⟩⟩
theorem swap_all {e : Tok} {S : List Tok} (he : e.kind = 6) (hS : StopT S) : ∀ f, Swap f e S := by
  intro f
  induction f with
  | zero => exact ⟨fun _ _ _ h => by simp [pChoice] at h, fun _ _ _ _ _ h => by simp [pAlts] at h, fun _ _ _ _ h => by simp [pParts] at h, fun _ _ _ h => by simp [pPart] at h, fun _ _ _ h => by simp [pOne] at h⟩
  | succ f ih => exact ⟨fun a b c h => swap_choice ih a b c h, fun a b c g k h => swap_alts he hS ih a b c g k h, fun a b c g h => swap_parts ih a b c g h, fun a b c h => swap_part he hS ih a b c h, fun a b c h => swap_one he hS ih a b c h⟩
end Go.Proofs.YtjlcoldnhbkcgaaGreatDoor
namespace Go.Proofs.YtjlcoldnhbkcgaaGreatDoor
open Go.RowKit

theorem pOne_mono {f f' d : Nat} {rs : List Tok} {r : PR (Option Nd)} (h : pOne f d rs = some r) (hf : f ≤ f') : pOne f' d rs = some r := by
  induction hf with
  | refl => exact h
  | step _ ih => exact (p_mono1 _).2.2.2.2 _ _ _ ih
/-- Tokens at which a row stops. -/
structure StopP (S : List Tok) : Prop where
  pre : preK (sgnOf S) = 0
  suf : sufK (sgnOf S) = 0
  arrow : kindT S ≠ 2
  one : ∀ f d, pOne (f + 1) d S = some (.ok none S)
theorem StopT.row {S : List Tok} (h : StopT S) : StopP S := ⟨h.pre, h.suf, h.arrow, h.one⟩
def OneR (d : Nat) (ts R : List Tok) (n : Tr) : Prop := (∃ f m, pOne f d (ts ++ R) = some (.ok (some m) R) ∧ SameT false n m.tr) ∨ ∃ f x, pOne f d (ts ++ R) = some (.err 2 x)
def SufR (d : Nat) (ts R : List Tok) (n : Tr) : Prop := (∃ f m R1, pOne f d (ts ++ R) = some (.ok (some m) R1) ∧ SameT false n (signed (sufK (sgnOf R1)) m m.pos).tr ∧ (if sufK (sgnOf R1) = 0 then R1 else R1.tail) = R) ∨ ∃ f x, pOne f d (ts ++ R) = some (.err 2 x)
def PartR (d : Nat) (ts R : List Tok) (n : Tr) : Prop := (∃ f m, pPart f d (ts ++ R) = some (.ok (some m) R) ∧ SameT false n m.tr) ∨ ∃ f x, pPart f d (ts ++ R) = some (.err 2 x)
def RowR (d : Nat) (ts R : List Tok) (n : Tr) : Prop := (∃ f m, pParts f d (ts ++ R) [] = some (.ok m R) ∧ SameT false n m.tr) ∨ ∃ f x, pParts f d (ts ++ R) [] = some (.err 2 x)
def ChoR (d : Nat) (ts R : List Tok) (n : Tr) : Prop := (∃ f m, pChoice f d (ts ++ R) = some (.ok m R) ∧ SameT false n m.tr) ∨ ∃ f x, pChoice f d (ts ++ R) = some (.err 2 x)
/-- A row's parts, some read already. -/
def rowN (l : List Nd) (R : List Tok) : Nd := if l.length = 0 then .mk 1 [] 0 [] (posT R) else joinN 6 l
def PartsR (d : Nat) (ts R : List Tok) (ns : List Tr) : Prop := ∀ acc : List Nd, (∃ f ms, pParts f d (ts ++ R) acc = some (.ok (rowN (acc ++ ms) R) R) ∧ SameU false ns (Nd.trs ms)) ∨ ∃ f x, pParts f d (ts ++ R) acc = some (.err 2 x)
def AltsR (d : Nat) (ts R : List Tok) (ns : List Tr) : Prop := ∀ acc : List Nd, (∃ f ms, pAlts f d (ts ++ R) acc = some (.ok (joinN 7 (acc ++ ms)) R) ∧ SameU false ns (Nd.trs ms)) ∨ ∃ f x, pAlts f d (ts ++ R) acc = some (.err 2 x)
theorem stop_part {d f : Nat} {R : List Tok} (h : StopP R) : pPart (f + 2) d R = some (.ok none R) := by
  rw [pPart, if_pos h.pre, h.one]
  simp only
  rw [if_pos h.pre]
theorem OneR.suf {d : Nat} {ts R : List Tok} {n : Tr} (h : OneR d ts R n) (hR : sufK (sgnOf R) = 0) : SufR d ts R n := by
  rcases h with ⟨f, m, h1, h2⟩ | h
  · exact .inl ⟨f, m, R, h1, by rw [hR]; exact h2, by rw [if_pos hR]⟩
  · exact .inr h
theorem SufR.part {d : Nat} {ts R : List Tok} {n : Tr} (h : SufR d ts R n) (hp : preK (sgnOf (ts ++ R)) = 0) : PartR d ts R n := by
  rcases h with ⟨f, m, R1, h1, h2, h3⟩ | ⟨f, x, h⟩
  · have := part_some (f := f) (d := d) (rs := ts ++ R) (rs2 := R1) (n := m) (by rw [if_pos hp]; exact h1)
    rw [hp, h3] at this
    exact .inl ⟨f + 1, _, this, by rw [signed, if_pos rfl]; exact h2⟩
  · exact .inr ⟨f + 1, x, part_err (by rw [if_pos hp]; exact h)⟩
theorem PartR.cons {d : Nat} {t1 t2 R : List Tok} {n : Tr} {ns : List Tr} (h : PartR d t1 (t2 ++ R) n) (h2 : PartsR d t2 R ns) : PartsR d (t1 ++ t2) R (n :: ns) := by
  intro acc
  rw [List.append_assoc]
  rcases h with ⟨f, m, g1, g2⟩ | ⟨f, x, h⟩
  · rcases h2 (acc ++ [m]) with ⟨f2, ms, g3, g4⟩ | ⟨f2, x, g3⟩
    · refine .inl ⟨f + f2 + 1, m :: ms, ?_, .cons g2 g4⟩
      rw [pParts, pPart_mono g1 (by omega)]
      show pParts (f + f2) d (t2 ++ R) (acc ++ [m]) = _
      rw [pParts_mono g3 (by omega)]
      simp
    · refine .inr ⟨f + f2 + 1, x, ?_⟩
      rw [pParts, pPart_mono g1 (by omega)]
      exact pParts_mono g3 (by omega)
  · exact .inr ⟨f + 1, x, by rw [pParts, h]⟩
theorem PartsR.stop {d : Nat} {R : List Tok} (h : StopP R) : PartsR d [] R [] := fun acc => .inl ⟨3, [], by
  rw [List.nil_append, pParts, stop_part h, List.append_nil]
  rfl, .nil⟩
theorem PartR.row {d : Nat} {ts R : List Tok} {n : Tr} (h : PartR d ts R n) (hS : StopP R) : RowR d ts R n := by
  have h2 := (PartR.cons (t2 := []) h (PartsR.stop hS)) []
  rw [List.append_nil] at h2
  rcases h2 with ⟨f, ms, g1, g2⟩ | ⟨f, x, g1⟩
  · cases ms with
    | nil => cases g2
    | cons m ms =>
      cases g2 with
      | cons g2 g3 =>
        cases ms with
        | nil => exact .inl ⟨f, m, g1, g2⟩
        | cons _ _ => cases g3
  · exact .inr ⟨f, x, g1⟩
theorem RowR.cons {d : Nat} {s : Tok} {t1 t2 R : List Tok} {n : Tr} {ns : List Tr} (hs : sgnOf [s] = [47]) (h : RowR d t1 (t2 ++ R) n) (h2 : AltsR d t2 R ns) : AltsR d (s :: (t1 ++ t2)) R (n :: ns) := by
  intro acc
  have hs' : sgnOf (s :: (t1 ++ t2) ++ R) = [47] := hs
  have ht : (s :: (t1 ++ t2) ++ R).tail = t1 ++ (t2 ++ R) := by simp
  rcases h with ⟨f, m, g1, g2⟩ | ⟨f, x, h⟩
  · rcases h2 (acc ++ [m]) with ⟨f2, ms, g3, g4⟩ | ⟨f2, x, g3⟩
    · refine .inl ⟨f + f2 + 1, m :: ms, ?_, .cons g2 g4⟩
      rw [pAlts, if_pos hs', ht, pParts_mono g1 (by omega)]
      show pAlts (f + f2) d (t2 ++ R) (acc ++ [m]) = _
      rw [pAlts_mono g3 (by omega)]
      simp
    · refine .inr ⟨f + f2 + 1, x, ?_⟩
      rw [pAlts, if_pos hs', ht, pParts_mono g1 (by omega)]
      exact pAlts_mono g3 (by omega)
  · exact .inr ⟨f + 1, x, by rw [pAlts, if_pos hs', ht, h]⟩
theorem AltsR.stop {d : Nat} {R : List Tok} (h : sgnOf R ≠ [47]) : AltsR d [] R [] := fun acc => .inl ⟨1, [], by
  rw [List.nil_append, pAlts, if_neg h, List.append_nil], .nil⟩
theorem RowR.cho {d : Nat} {ts R : List Tok} {n : Tr} (h : RowR d ts R n) (hS : sgnOf R ≠ [47]) : ChoR d ts R n := by
  rcases h with ⟨f, m, g1, g2⟩ | ⟨f, x, h⟩
  · refine .inl ⟨f + 2, m, ?_, g2⟩
    rw [pChoice, pParts_mono g1 (by omega)]
    show pAlts (f + 1) d R [m] = _
    rw [pAlts, if_neg hS]
    rfl
  · exact .inr ⟨f + 1, x, by rw [pChoice, h]⟩
theorem core_one {ts : List Tok} {c : Nat × List UInt8 × BitVec 256} (h : ts.map core = [c]) : ∃ t, ts = [t] ∧ t.kind = c.1 ∧ t.text = c.2.1 ∧ t.cls = c.2.2 := by
  match ts, h with
  | [t], h =>
    simp only [List.map_cons, List.map_nil, List.cons.injEq, and_true] at h
    subst h
    exact ⟨t, rfl, rfl, rfl, rfl⟩
theorem core_app {ts : List Tok} {a b : List (Nat × List UInt8 × BitVec 256)} (h : ts.map core = a ++ b) : ∃ t1 t2, ts = t1 ++ t2 ∧ t1.map core = a ∧ t2.map core = b := List.map_eq_append_iff.1 h
theorem core_cons {ts : List Tok} {c : Nat × List UInt8 × BitVec 256} {b : List (Nat × List UInt8 × BitVec 256)} (h : ts.map core = c :: b) : ∃ t t2, ts = t :: t2 ∧ t.kind = c.1 ∧ t.text = c.2.1 ∧ t.cls = c.2.2 ∧ t2.map core = b := by
  cases ts with
  | nil => cases h
  | cons t t2 =>
    rw [List.map_cons] at h
    injection h with h1 h2
    subst h1
    exact ⟨t, t2, rfl, rfl, rfl, rfl, h2⟩
theorem sgn_is {t : Tok} {b : List UInt8} {R : List Tok} (hk : t.kind = 5) (ht : t.text = b) : sgnOf (t :: R) = b := by rw [sgnOf, if_pos hk, ht]
theorem sgn_no {t : Tok} {R : List Tok} (hk : t.kind ≠ 5) : sgnOf (t :: R) = [] := by rw [sgnOf, if_neg hk]
theorem close_row {t : Tok} {R : List Tok} (hk : t.kind = 5) (ht : t.text = [41]) : StopP (t :: R) ∧ sgnOf (t :: R) ≠ [47] := by
  have hs : sgnOf (t :: R) = [41] := sgn_is hk ht
  refine ⟨⟨by rw [hs]; rfl, by rw [hs]; rfl, by show t.kind ≠ 2; omega, fun f d => ?_⟩, by rw [hs]; decide⟩
  rw [pOne, if_neg (by omega), if_neg (by omega), if_neg (by omega), if_neg (by rw [ht]; simp), if_neg (by rw [ht]; simp)]
theorem slash_row {t : Tok} {R : List Tok} (hk : t.kind = 5) (ht : t.text = [47]) : StopP (t :: R) := by
  have hs : sgnOf (t :: R) = [47] := sgn_is hk ht
  refine ⟨by rw [hs]; rfl, by rw [hs]; rfl, by show t.kind ≠ 2; omega, fun f d => ?_⟩
  rw [pOne, if_neg (by omega), if_neg (by omega), if_neg (by omega), if_neg (by rw [ht]; simp), if_neg (by rw [ht]; simp)]
/-- A choice in parentheses. -/
theorem ChoR.within {d : Nat} {a b : Tok} {ts R : List Tok} {n : Tr} (ha : a.kind = 5 ∧ a.text = [40]) (hb : b.kind = 5 ∧ b.text = [41]) (h : d ≠ 24 → ChoR (d + 1) ts (b :: R) n) : OneR d (a :: (ts ++ [b])) R n := by
  have e : a :: (ts ++ [b]) ++ R = a :: (ts ++ b :: R) := by simp
  unfold OneR
  rw [e]
  have k1 : ¬ a.kind = 1 := by omega
  have k3 : ¬ a.kind = 3 := by omega
  have k4 : ¬ a.kind = 4 := by omega
  have k46 : ¬ (a.kind = 5 ∧ a.text = [46]) := by rw [ha.2]; simp
  by_cases hd : d = 24
  · exact .inr ⟨1, a.pos, by rw [pOne, if_neg k1, if_neg k3, if_neg k4, if_neg k46, if_pos ha, if_pos hd]⟩
  · rcases h hd with ⟨f, m, g1, g2⟩ | ⟨f, x, g⟩
    · refine .inl ⟨f + 1, m, ?_, g2⟩
      rw [pOne, if_neg k1, if_neg k3, if_neg k4, if_neg k46, if_pos ha, if_neg hd, g1]
      simp only
      rw [if_pos (sgn_is hb.1 hb.2)]
      rfl
    · exact .inr ⟨f + 1, x, by rw [pOne, if_neg k1, if_neg k3, if_neg k4, if_neg k46, if_pos ha, if_neg hd, g]⟩
/-- What is shown of a tree. -/
structure MainR (n : Tr) : Prop where
  one : 4 ≤ rankT n.kind → ∀ d ts R, ts.map core = cos (pcT n) → kindT R ≠ 2 → preK (sgnOf (ts ++ R)) = 0 ∧ OneR d ts R n
  suf : 3 ≤ rankT n.kind → ∀ d ts R, ts.map core = cos (pcT n) → kindT R ≠ 2 → sufK (sgnOf R) = 0 → preK (sgnOf (ts ++ R)) = 0 ∧ SufR d ts R n
  part : 2 ≤ rankT n.kind → ∀ d ts R, ts.map core = cos (pcT n) → kindT R ≠ 2 → sufK (sgnOf R) = 0 → PartR d ts R n
  row : 1 ≤ rankT n.kind → ∀ d ts R, ts.map core = cos (pcT n) → StopP R → RowR d ts R n
  cho : ∀ d ts R, ts.map core = cos (pcT n) → StopP R → sgnOf R ≠ [47] → ChoR d ts R n
theorem main_row {n : Tr} (h : 1 ≤ rankT n.kind → ∀ d ts R, ts.map core = cos (pcT n) → StopP R → RowR d ts R n) (h1 : 1 ≤ rankT n.kind) (h2 : rankT n.kind < 2) : MainR n :=
  ⟨fun e => by omega, fun e => by omega, fun e => by omega, h, fun d ts R ht hS h47 => (h h1 d ts R ht hS).cho h47⟩
theorem main_part {n : Tr} (h : ∀ d ts R, ts.map core = cos (pcT n) → kindT R ≠ 2 → sufK (sgnOf R) = 0 → PartR d ts R n) (h1 : 2 ≤ rankT n.kind) (h2 : rankT n.kind < 3) : MainR n :=
  ⟨fun e => by omega, fun e => by omega, fun _ => h, fun _ d ts R ht hS => (h d ts R ht hS.arrow hS.suf).row hS, fun d ts R ht hS h47 => ((h d ts R ht hS.arrow hS.suf).row hS).cho h47⟩
theorem main_suf {n : Tr} (h : ∀ d ts R, ts.map core = cos (pcT n) → kindT R ≠ 2 → sufK (sgnOf R) = 0 → preK (sgnOf (ts ++ R)) = 0 ∧ SufR d ts R n) (h2 : rankT n.kind = 3) : MainR n :=
  have hp : ∀ d ts R, ts.map core = cos (pcT n) → kindT R ≠ 2 → sufK (sgnOf R) = 0 → PartR d ts R n := fun d ts R ht hk hs => (h d ts R ht hk hs).2.part (h d ts R ht hk hs).1
  ⟨fun e => by omega, fun _ => h, fun _ => hp, fun _ d ts R ht hS => (hp d ts R ht hS.arrow hS.suf).row hS, fun d ts R ht hS h47 => ((hp d ts R ht hS.arrow hS.suf).row hS).cho h47⟩
theorem main_one {n : Tr} (h : ∀ d ts R, ts.map core = cos (pcT n) → kindT R ≠ 2 → preK (sgnOf (ts ++ R)) = 0 ∧ OneR d ts R n) : MainR n :=
  have hs : ∀ d ts R, ts.map core = cos (pcT n) → kindT R ≠ 2 → sufK (sgnOf R) = 0 → preK (sgnOf (ts ++ R)) = 0 ∧ SufR d ts R n := fun d ts R ht hk hs => ⟨(h d ts R ht hk).1, (h d ts R ht hk).2.suf hs⟩
  have hp : ∀ d ts R, ts.map core = cos (pcT n) → kindT R ≠ 2 → sufK (sgnOf R) = 0 → PartR d ts R n := fun d ts R ht hk h3 => (hs d ts R ht hk h3).2.part (hs d ts R ht hk h3).1
  ⟨fun _ => h, fun _ => hs, fun _ => hp, fun _ d ts R ht hS => (hp d ts R ht hS.arrow hS.suf).row hS, fun d ts R ht hS h47 => ((hp d ts R ht hS.arrow hS.suf).row hS).cho h47⟩
/-- A part in parentheses, or as it is. -/
theorem MainR.paren {n : Tr} (h : MainR n) {d : Nat} {ts R : List Tok} (ht : ts.map core = cos (.sg 40 :: (pcT n ++ [.sg 41]))) : preK (sgnOf (ts ++ R)) = 0 ∧ OneR d ts R n := by
  obtain ⟨a, t2, rfl, a1, a2, _, ht2⟩ := core_cons (show ts.map core = (5, [40], 0) :: cos (pcT n ++ [.sg 41]) from ht)
  rw [cos_app] at ht2
  obtain ⟨t3, t4, rfl, ht3, ht4⟩ := core_app ht2
  obtain ⟨b, rfl, b1, b2, _⟩ := core_one ht4
  have hc := close_row (R := R) b1 b2
  exact ⟨by rw [List.cons_append, sgn_is a1 a2]; rfl, ChoR.within ⟨a1, a2⟩ ⟨b1, b2⟩ (fun _ => h.cho (d + 1) t3 (b :: R) ht3 hc.1 hc.2)⟩
theorem MainR.one4 {n : Tr} (h : MainR n) {d : Nat} {ts R : List Tok} (ht : ts.map core = cos (pcQ 4 n)) (hk : kindT R ≠ 2) : preK (sgnOf (ts ++ R)) = 0 ∧ OneR d ts R n := by
  unfold pcQ Go.Proofs.YtjlcoldnhbkcgaaGreatDoor.paren at ht
  split at ht
  · next h4 => exact h.one h4 d ts R ht hk
  · exact h.paren ht
theorem MainR.suf3 {n : Tr} (h : MainR n) {d : Nat} {ts R : List Tok} (ht : ts.map core = cos (pcQ 3 n)) (hk : kindT R ≠ 2) (hs : sufK (sgnOf R) = 0) : preK (sgnOf (ts ++ R)) = 0 ∧ SufR d ts R n := by
  unfold pcQ Go.Proofs.YtjlcoldnhbkcgaaGreatDoor.paren at ht
  split at ht
  · next h3 => exact h.suf h3 d ts R ht hk hs
  · exact ⟨(h.paren (d := d) (R := R) ht).1, (h.paren ht).2.suf hs⟩
theorem MainR.part2 {n : Tr} (h : MainR n) {d : Nat} {ts R : List Tok} (ht : ts.map core = cos (pcQ 2 n)) (hk : kindT R ≠ 2) (hs : sufK (sgnOf R) = 0) : PartR d ts R n := by
  unfold pcQ Go.Proofs.YtjlcoldnhbkcgaaGreatDoor.paren at ht
  split at ht
  · next h2 => exact h.part h2 d ts R ht hk hs
  · exact ((h.paren ht).2.suf hs).part (h.paren (d := d) (R := R) ht).1
theorem MainR.row1 {n : Tr} (h : MainR n) {d : Nat} {ts R : List Tok} (ht : ts.map core = cos (pcQ 1 n)) (hS : StopP R) : RowR d ts R n := by
  unfold pcQ Go.Proofs.YtjlcoldnhbkcgaaGreatDoor.paren at ht
  split at ht
  · next h1 => exact h.row h1 d ts R ht hS
  · exact (((h.paren ht).2.suf hS.suf).part (h.paren (d := d) (R := R) ht).1).row hS
/-- The first token of a part is no arrow, and no sign that stands behind one. -/
def StartP (ts : List Tok) : Prop := ∀ R, kindT (ts ++ R) ≠ 2 ∧ sufK (sgnOf (ts ++ R)) = 0 ∧ ts ≠ []
theorem start_tok {t : Tok} {l : List Tok} (h1 : t.kind ≠ 2) (h2 : sufK (sgnOf [t]) = 0) : StartP (t :: l) := fun _ => ⟨h1, h2, by simp⟩
theorem start_app {l m : List Tok} (h : StartP l) : StartP (l ++ m) := fun R => by
  rw [List.append_assoc]
  exact ⟨(h _).1, (h _).2.1, fun e => (h []).2.2 (List.append_eq_nil_iff.1 e).1⟩
theorem start_sign {t : Tok} {l : List Tok} {b : UInt8} (h1 : t.kind = 5) (h2 : t.text = [b]) (hb : b = 40 ∨ b = 38 ∨ b = 33 ∨ b = 46) : StartP (t :: l) := by
  refine start_tok (by omega) ?_
  rw [sgn_is h1 h2]
  rcases hb with rfl | rfl | rfl | rfl <;> rfl
theorem start_tree {n : Tr} (h : OkT n) : ∀ ts, ts.map core = cos (pcT n) → StartP ts := by
  have hparen : ∀ (r k : Nat) (l : List Pc) (m : List Pc), (∀ ts, ts.map core = cos l → StartP ts) → ∀ ts, ts.map core = cos (paren r k l ++ m) → StartP ts := by
    intro r k l m hl ts ht
    unfold paren at ht
    split at ht
    · rw [cos_app] at ht
      obtain ⟨t1, t2, rfl, ht1, _⟩ := core_app ht
      exact start_app (hl t1 ht1)
    · obtain ⟨a, t2, rfl, a1, a2, _, _⟩ := core_cons (show ts.map core = (5, [40], 0) :: cos (l ++ [.sg 41] ++ m) from ht)
      exact start_sign a1 a2 (.inl rfl)
  induction h with
  | empty =>
    intro ts ht
    obtain ⟨a, t2, rfl, a1, a2, _, _⟩ := core_cons (show ts.map core = (5, [40], 0) :: [(5, [41], 0)] from ht)
    exact start_sign a1 a2 (.inl rfl)
  | @lit t p _ =>
    intro ts ht
    obtain ⟨a, rfl, a1, _, _⟩ := core_one (show ts.map core = [(3, t, 0)] from ht)
    exact start_tok (by rw [a1]; simp) (by rw [sgn_no (by rw [a1]; simp)]; rfl)
  | @set c p =>
    intro ts ht
    obtain ⟨a, rfl, a1, _, _⟩ := core_one (show ts.map core = [(4, [], c)] from ht)
    exact start_tok (by rw [a1]; simp) (by rw [sgn_no (by rw [a1]; simp)]; rfl)
  | any =>
    intro ts ht
    obtain ⟨a, rfl, a1, a2, _⟩ := core_one (show ts.map core = [(5, [46], 0)] from ht)
    exact start_sign a1 a2 (.inr (.inr (.inr rfl)))
  | @ref t p _ =>
    intro ts ht
    obtain ⟨a, rfl, a1, _, _⟩ := core_one (show ts.map core = [(1, t, 0)] from ht)
    exact start_tok (by rw [a1]; simp) (by rw [sgn_no (by rw [a1]; simp)]; rfl)
  | @seq l p hl _ ih =>
    intro ts ht
    cases l with
    | nil => simp at hl
    | cons n l => exact hparen 2 _ _ _ (ih n List.mem_cons_self) ts (by rw [show pcT (.mk 6 [] 0 (n :: l) p) = pcR [.sp] 2 true (n :: l) from rfl, pcR_cons] at ht; exact ht)
  | @alt l p hl _ ih =>
    intro ts ht
    cases l with
    | nil => simp at hl
    | cons n l => exact hparen 1 _ _ _ (ih n List.mem_cons_self) ts (by rw [show pcT (.mk 7 [] 0 (n :: l) p) = pcR [.sp, .sg 47, .sp] 1 true (n :: l) from rfl, pcR_cons] at ht; exact ht)
  | @post k p x hk _ ih =>
    intro ts ht
    have e : pcT (.mk k [] 0 [x] p) = pcR [] 4 true [x] ++ [.sg (postB k)] := by rcases hk with rfl | rfl | rfl <;> (rw [pcT]; rfl)
    rw [e, pcR_cons, pcR_nil, List.append_nil] at ht
    exact hparen 4 _ _ _ ih ts ht
  | @pre k p x hk _ ih =>
    intro ts ht
    have e : pcT (.mk k [] 0 [x] p) = .sg (preB k) :: pcR [] 3 true [x] := by rcases hk with rfl | rfl <;> (rw [pcT]; rfl)
    rw [e] at ht
    obtain ⟨a, t2, rfl, a1, a2, _, _⟩ := core_cons (show ts.map core = (5, [preB k], 0) :: cos (pcR [] 3 true [x]) from ht)
    exact start_sign a1 a2 (by rcases hk with rfl | rfl; exact .inr (.inl rfl); exact .inr (.inr (.inl rfl)))
theorem start_part {n : Tr} (h : OkT n) {r : Nat} {ts : List Tok} (ht : ts.map core = cos (pcQ r n)) : StartP ts := by
  unfold pcQ paren at ht
  split at ht
  · exact start_tree h ts ht
  · obtain ⟨a, t2, rfl, a1, a2, _, _⟩ := core_cons (show ts.map core = (5, [40], 0) :: cos (pcT n ++ [.sg 41]) from ht)
    exact start_sign a1 a2 (.inl rfl)
end Go.Proofs.YtjlcoldnhbkcgaaGreatDoor
