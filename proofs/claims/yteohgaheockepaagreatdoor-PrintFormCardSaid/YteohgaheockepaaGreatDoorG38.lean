/- What is read may be printed, and is no deeper than its source, if no part of it is empty: plain. | Too many parentheses are too many with other tokens behind: plain. | A tree whose text fits in one source fits in others: plain. -/
import Derived.Test.YteohgaheockepaaGreatDoorG37
import Derived.Test.YteohgaheockepaaGreatDoorG29
import Derived.Test.YteohgaheockepaaGreatDoorG30
namespace Go.Proofs.YteohgaheockepaaGreatDoor
open Go.RowKit

mutual
/-- Is an Empty somewhere within? -/
def hasE : Tr → Bool
  | .mk k _ _ l _ => k == 1 || hasL l
def hasL : List Tr → Bool
  | [] => false
  | n :: l => hasE n || hasL l
end
theorem hasE_subs {k p : Int} {t : List UInt8} {c : BitVec 256} {l : List Tr} (h : hasE (.mk k t c l p) = false) : k ≠ 1 ∧ hasL l = false := by
  rw [hasE, Bool.or_eq_false_iff] at h
  exact ⟨fun e => by rw [e] at h; simp at h, h.2⟩
theorem hasL_mem {l : List Nd} (h : hasL (Nd.trs l) = false) : ∀ x ∈ l, hasE x.tr = false := by
  induction l with
  | nil => intro x hx; cases hx
  | cons n l ih =>
    rw [Nd.trs, hasL, Bool.or_eq_false_iff] at h
    intro x hx
    rcases List.mem_cons.1 hx with rfl | hx
    · exact h.1
    · exact ih h.2 x hx
theorem dp_le (r : Nat) (n : Tr) : dpT n ≤ dpQ r n ∧ dpQ r n ≤ dpT n + 1 := by unfold dpQ; split <;> omega
theorem dpQ_mono {r r' : Nat} (h : r ≤ r') (n : Tr) : dpQ r n ≤ dpQ r' n := by
  unfold dpQ
  split
  · split <;> omega
  · rw [if_neg (by omega)]; exact Nat.le_refl _
theorem dpQ_in {r : Nat} {n : Tr} (h : r ≤ rankT n.kind) : dpQ r n = dpT n := by rw [dpQ, if_pos h]
theorem dpL_le {d r : Nat} {l : List Nd} (hd : d ≤ 24) (h : ∀ x ∈ l, d + dpQ r x.tr ≤ 24) : d + dpL r (Nd.trs l) ≤ 24 := by
  induction l with
  | nil => rw [Nd.trs, dpL]; omega
  | cons n l ih =>
    have h1 := h n List.mem_cons_self
    have h2 := ih (fun x hx => h x (List.mem_cons_of_mem _ hx))
    rw [Nd.trs, dpL_cons]
    omega
theorem okT_trs {l : List Nd} (h : ∀ x ∈ l, OkT x.tr) : ∀ n ∈ Nd.trs l, OkT n := by
  induction l with
  | nil => intro n hn; rw [Nd.trs] at hn; cases hn
  | cons x l ih =>
    intro n hn
    rw [Nd.trs] at hn
    rcases List.mem_cons.1 hn with rfl | hn
    · exact h x List.mem_cons_self
    · exact ih (fun y hy => h y (List.mem_cons_of_mem _ hy)) n hn
def Toks (r : List Tok) : Prop := ∀ t ∈ r, TokOk t
theorem Toks.tail {r : List Tok} (h : Toks r) : Toks r.tail := fun t ht => h t (List.mem_of_mem_tail ht)
/-- What is known of a tree read at a depth. -/
def Rd (b : Nat → Tr → Nat) (r d : Nat) (n : Nd) : Prop := OkT n.tr ∧ (hasE n.tr = false → d + b r n.tr ≤ 24)
theorem join6 {d : Nat} {l : List Nd} (hd : d ≤ 24) (h0 : l.length ≠ 0) (h : ∀ x ∈ l, OkT x.tr ∧ (hasE x.tr = false → d + dpQ 2 x.tr ≤ 24)) : OkT (joinN 6 l).tr ∧ (hasE (joinN 6 l).tr = false → d + dpQ 1 (joinN 6 l).tr ≤ 24) := by
  match l, h0, h with
  | [x], _, h =>
    obtain ⟨h1, h2⟩ := h x List.mem_cons_self
    exact ⟨h1, fun e => Nat.le_trans (Nat.add_le_add_left (dpQ_mono (by decide) _) d) (h2 e)⟩
  | x :: y :: l, _, h =>
    rw [joinN, Nd.tr]
    refine ⟨.seq (by rw [Nd.trs_length]; simp) (okT_trs (fun z hz => (h z hz).1)), fun e => ?_⟩
    rw [dpQ_in (Nat.le_refl 1)]
    have hl := hasL_mem (hasE_subs e).2
    exact dpL_le (r := 2) hd (fun z hz => (h z hz).2 (hl z hz))
theorem join7 {d : Nat} {l : List Nd} (hd : d ≤ 24) (h0 : l.length ≠ 0) (h : ∀ x ∈ l, OkT x.tr ∧ (hasE x.tr = false → d + dpQ 1 x.tr ≤ 24)) : OkT (joinN 7 l).tr ∧ (hasE (joinN 7 l).tr = false → d + dpT (joinN 7 l).tr ≤ 24) := by
  match l, h0, h with
  | [x], _, h =>
    obtain ⟨h1, h2⟩ := h x List.mem_cons_self
    exact ⟨h1, fun e => Nat.le_trans (Nat.add_le_add_left (dp_le 1 _).1 d) (h2 e)⟩
  | x :: y :: l, _, h =>
    rw [joinN, Nd.tr]
    refine ⟨.alt (by rw [Nd.trs_length]; simp) (okT_trs (fun z hz => (h z hz).1)), fun e => ?_⟩
    have hl := hasL_mem (hasE_subs e).2
    exact dpL_le (r := 1) hd (fun z hz => (h z hz).2 (hl z hz))
theorem dp_sign {k p : Nat} {n : Nd} (hk : k = 8 ∨ k = 9 ∨ k = 10 ∨ k = 11 ∨ k = 12) : dpT (Nd.mk k [] 0 [n] p).tr = dpQ (if k = 11 ∨ k = 12 then 3 else 4) n.tr ∧ rankT (Nd.mk k [] 0 [n] p).tr.kind = (if k = 11 ∨ k = 12 then 2 else 3) ∧ (hasE (Nd.mk k [] 0 [n] p).tr = false → hasE n.tr = false) := by
  refine ⟨?_, ?_, fun e => ?_⟩
  · rw [Nd.tr, Nd.trs, Nd.trs, ← dpL_one]
    rcases hk with rfl | rfl | rfl | rfl | rfl <;> (rw [dpT]; rfl)
  · rw [Nd.tr]
    rcases hk with rfl | rfl | rfl | rfl | rfl <;> rfl
  · rw [Nd.tr] at e
    exact hasL_mem (hasE_subs e).2 n List.mem_cons_self
theorem sufK_is (s : List UInt8) : sufK s = 0 ∨ sufK s = 8 ∨ sufK s = 9 ∨ sufK s = 10 := by
  unfold sufK
  split
  · omega
  split
  · omega
  split <;> omega
theorem preK_is (s : List UInt8) : preK s = 0 ∨ preK s = 11 ∨ preK s = 12 := by
  unfold preK
  split
  · omega
  split <;> omega
structure Deep (f : Nat) : Prop where
  choice : ∀ {d : Nat} {ts r : List Tok} {n : Nd}, d ≤ 24 → Toks ts → pChoice f d ts = some (.ok n r) → Toks r ∧ OkT n.tr ∧ (hasE n.tr = false → d + dpT n.tr ≤ 24)
  alts : ∀ {d : Nat} {ts r : List Tok} {n : Nd} {l : List Nd}, d ≤ 24 → Toks ts → l.length ≠ 0 → (∀ x ∈ l, OkT x.tr ∧ (hasE x.tr = false → d + dpQ 1 x.tr ≤ 24)) → pAlts f d ts l = some (.ok n r) → Toks r ∧ OkT n.tr ∧ (hasE n.tr = false → d + dpT n.tr ≤ 24)
  parts : ∀ {d : Nat} {ts r : List Tok} {n : Nd} {l : List Nd}, d ≤ 24 → Toks ts → (∀ x ∈ l, OkT x.tr ∧ (hasE x.tr = false → d + dpQ 2 x.tr ≤ 24)) → pParts f d ts l = some (.ok n r) → Toks r ∧ OkT n.tr ∧ (hasE n.tr = false → d + dpQ 1 n.tr ≤ 24)
  part : ∀ {d : Nat} {ts r : List Tok} {n : Option Nd}, d ≤ 24 → Toks ts → pPart f d ts = some (.ok n r) → Toks r ∧ ∀ m, n = some m → OkT m.tr ∧ (hasE m.tr = false → d + dpQ 2 m.tr ≤ 24)
  one : ∀ {d : Nat} {ts r : List Tok} {n : Option Nd}, d ≤ 24 → Toks ts → pOne f d ts = some (.ok n r) → Toks r ∧ ∀ m, n = some m → OkT m.tr ∧ (hasE m.tr = false → d + dpQ 4 m.tr ≤ 24)
theorem snocs {Q : Nd → Prop} {l : List Nd} {n : Nd} (h : ∀ x ∈ l, Q x) (hn : Q n) : ∀ x ∈ l ++ [n], Q x := by
  intro x hx
  rcases List.mem_append.1 hx with hx | hx
  · exact h x hx
  · rw [List.mem_singleton.1 hx]; exact hn
theorem deep_all : ∀ f, Deep f := by
  intro f
  induction f with
  | zero => exact ⟨fun _ _ h => by simp [pChoice] at h, fun _ _ _ _ h => by simp [pAlts] at h, fun _ _ _ h => by simp [pParts] at h, fun _ _ h => by simp [pPart] at h, fun _ _ h => by simp [pOne] at h⟩
  | succ f ih =>
    refine ⟨fun {d ts r n} hd ht h => ?_, fun {d ts r n l} hd ht h0 hl h => ?_, fun {d ts r n l} hd ht hl h => ?_, fun {d ts r n} hd ht h => ?_, fun {d ts r n} hd ht h => ?_⟩
    · rw [pChoice] at h
      cases e1 : pParts f d ts [] with
      | none => rw [e1] at h; cases h
      | some y =>
        rw [e1] at h
        cases y with
        | err c x => cases h
        | ok m r1 =>
          obtain ⟨k1, k2⟩ := ih.parts hd ht (fun x hx => by cases hx) e1
          exact ih.alts hd k1 (by simp) (fun x hx => by rw [List.mem_singleton.1 hx]; exact k2) h
    · rw [pAlts] at h
      split at h
      · cases e1 : pParts f d ts.tail [] with
        | none => rw [e1] at h; cases h
        | some y =>
          rw [e1] at h
          cases y with
          | err c x => cases h
          | ok m r1 =>
            obtain ⟨k1, k2⟩ := ih.parts hd ht.tail (fun x hx => by cases hx) e1
            exact ih.alts hd k1 (by simp) (snocs hl k2) h
      · have e2 := Option.some.inj h
        injection e2 with e3 e4
        subst e3 e4
        exact ⟨ht, join7 hd h0 hl⟩
    · rw [pParts] at h
      cases e1 : pPart f d ts with
      | none => rw [e1] at h; cases h
      | some y =>
        rw [e1] at h
        cases y with
        | err c x => cases h
        | ok m r1 =>
          obtain ⟨k1, k2⟩ := ih.part hd ht e1
          cases m with
          | some m => exact ih.parts hd k1 (snocs hl (k2 m rfl)) h
          | none =>
            simp only at h
            split at h
            · have e2 := Option.some.inj h
              injection e2 with e3 e4
              subst e3 e4
              refine ⟨k1, ?_, fun e => ?_⟩
              · rw [Nd.tr, Nd.trs]; exact .empty
              · rw [Nd.tr] at e; exact absurd rfl (hasE_subs e).1
            · next h0 =>
              have e2 := Option.some.inj h
              injection e2 with e3 e4
              subst e3 e4
              exact ⟨k1, join6 hd h0 hl⟩
    · rw [pPart] at h
      have ht2 : Toks (if preK (sgnOf ts) = 0 then ts else ts.tail) := by split; exact ht; exact ht.tail
      cases e1 : pOne f d (if preK (sgnOf ts) = 0 then ts else ts.tail) with
      | none => rw [e1] at h; cases h
      | some y =>
        rw [e1] at h
        cases y with
        | err c x => cases h
        | ok m r1 =>
          obtain ⟨k1, k2⟩ := ih.one hd ht2 e1
          cases m with
          | none =>
            simp only at h
            split at h
            · have e2 := Option.some.inj h
              injection e2 with e3 e4
              subst e3 e4
              exact ⟨k1, (fun m e => by cases e)⟩
            · cases h
          | some m =>
            obtain ⟨o1, o2⟩ := k2 m rfl
            have e2 := Option.some.inj h
            injection e2 with e3 e4
            subst e3 e4
            refine ⟨by split; exact k1; exact k1.tail, fun m2 e => ?_⟩
            have e := Option.some.inj e
            subst e
            obtain ⟨n1, hn1⟩ : ∃ n1, n1 = (if sufK (sgnOf r1) = 0 then m else .mk (sufK (sgnOf r1)) [] 0 [m] m.pos) := ⟨_, rfl⟩
            rw [← hn1]
            have q1 : OkT n1.tr ∧ (hasE n1.tr = false → d + dpQ 3 n1.tr ≤ 24) := by
              rw [hn1]
              split
              · exact ⟨o1, fun e => Nat.le_trans (Nat.add_le_add_left (dpQ_mono (by decide) _) d) (o2 e)⟩
              · next hs =>
                have hk : sufK (sgnOf r1) = 8 ∨ sufK (sgnOf r1) = 9 ∨ sufK (sgnOf r1) = 10 := (sufK_is _).resolve_left hs
                obtain ⟨g1, g2, g3⟩ := dp_sign (k := sufK (sgnOf r1)) (p := m.pos) (n := m) (by omega)
                rw [if_neg (by omega)] at g1 g2
                refine ⟨?_, fun e => ?_⟩
                · rw [Nd.tr, Nd.trs, Nd.trs]
                  exact .post (by omega) o1
                · rw [dpQ_in (by rw [g2]; exact Nat.le_refl 3), g1]
                  exact o2 (g3 e)
            split
            · exact ⟨q1.1, fun e => Nat.le_trans (Nat.add_le_add_left (dpQ_mono (by decide) _) d) (q1.2 e)⟩
            · next hs =>
              have hk : preK (sgnOf ts) = 11 ∨ preK (sgnOf ts) = 12 := (preK_is _).resolve_left hs
              obtain ⟨g1, g2, g3⟩ := dp_sign (k := preK (sgnOf ts)) (p := posT ts) (n := n1) (by omega)
              rw [if_pos (by omega)] at g1 g2
              refine ⟨?_, fun e => ?_⟩
              · rw [Nd.tr, Nd.trs, Nd.trs]
                exact .pre (by omega) q1.1
              · rw [dpQ_in (by rw [g2]; exact Nat.le_refl 2), g1]
                exact q1.2 (g3 e)
    · cases ts with
      | nil => rw [pOne] at h; cases h
      | cons t rs =>
        have htok := ht t List.mem_cons_self
        have hrs : Toks rs := fun u hu => ht u (List.mem_cons_of_mem _ hu)
        rw [pOne] at h
        split at h
        · next k1 =>
          split at h
          · have e2 := Option.some.inj h
            injection e2 with e3 e4
            subst e3 e4
            exact ⟨ht, (fun m e => by cases e)⟩
          · have e2 := Option.some.inj h
            injection e2 with e3 e4
            subst e3 e4
            refine ⟨hrs, fun m e => ?_⟩
            have e := Option.some.inj e
            subst e
            rw [Nd.tr, Nd.trs, htok.cls (by omega)]
            exact ⟨.ref (htok.name k1), fun _ => hd⟩
        next k1 =>
        split at h
        · next k3 =>
          have e2 := Option.some.inj h
          injection e2 with e3 e4
          subst e3 e4
          refine ⟨hrs, fun m e => ?_⟩
          have e := Option.some.inj e
          subst e
          rw [Nd.tr, Nd.trs, htok.cls (by omega)]
          exact ⟨.lit (htok.lit k3), fun _ => hd⟩
        next k3 =>
        split at h
        · next k4 =>
          have e2 := Option.some.inj h
          injection e2 with e3 e4
          subst e3 e4
          refine ⟨hrs, fun m e => ?_⟩
          have e := Option.some.inj e
          subst e
          rw [Nd.tr, Nd.trs, htok.set k4]
          exact ⟨.set, fun _ => hd⟩
        next k4 =>
        split at h
        · next k5 =>
          have e2 := Option.some.inj h
          injection e2 with e3 e4
          subst e3 e4
          refine ⟨hrs, fun m e => ?_⟩
          have e := Option.some.inj e
          subst e
          rw [Nd.tr, Nd.trs, htok.cls (by omega)]
          exact ⟨.any, fun _ => hd⟩
        next k5 =>
        split at h
        · split at h
          · cases h
          next h24 =>
          cases e1 : pChoice f (d + 1) rs with
          | none => rw [e1] at h; cases h
          | some y =>
            rw [e1] at h
            cases y with
            | err c x => cases h
            | ok m r1 =>
              obtain ⟨g1, g2, g3⟩ := ih.choice (d := d + 1) (by omega) hrs e1
              simp only at h
              split at h
              · have e2 := Option.some.inj h
                injection e2 with e3 e4
                subst e3 e4
                refine ⟨g1.tail, fun m2 e => ?_⟩
                have e := Option.some.inj e
                subst e
                refine ⟨g2, fun e => ?_⟩
                have := g3 e
                have := (dp_le 4 m.tr).2
                omega
              · cases h
        · have e2 := Option.some.inj h
          injection e2 with e3 e4
          subst e3 e4
          exact ⟨ht, (fun m e => by cases e)⟩
/-- The rules that are read. -/
def RuOk (u : Ru) : Prop := OkR u.rr ∧ (hasE u.body.tr = false → dpT u.body.tr ≤ 24)
theorem rules_deep : ∀ (f : Nat) {ts r : List Tok} {acc g : List Ru}, Toks ts → (∀ u ∈ acc, RuOk u) → pRules f ts acc = some (.ok g r) → ∀ u ∈ g, RuOk u := by
  intro f
  induction f with
  | zero => intro ts r acc g _ _ h; cases h
  | succ f ih =>
    intro ts r acc g ht ha h
    rw [pRules] at h
    split at h
    · have e2 := Option.some.inj h
      injection e2 with e3 _
      subst e3
      exact ha
    split at h
    · cases h
    split at h
    · cases h
    next k1 =>
    split at h
    · cases h
    cases e1 : pChoice f 0 ts.tail.tail with
    | none => rw [e1] at h; cases h
    | some y =>
      rw [e1] at h
      cases y with
      | err c x => cases h
      | ok n r1 =>
        obtain ⟨g1, g2, g3⟩ := (deep_all f).choice (Nat.zero_le _) ht.tail.tail e1
        refine ih g1 (fun u hu => ?_) h
        rcases List.mem_append.1 hu with hu | hu
        · exact ha u hu
        · rw [List.mem_singleton.1 hu]
          refine ⟨⟨?_, g2⟩, fun e => (by have h9 := g3 e; rw [Nat.zero_add] at h9; exact h9)⟩
          cases ts with
          | nil => exact absurd (fun e => by cases e) k1
          | cons t rs => exact (ht t List.mem_cons_self).name (by simpa [kindT] using k1)
theorem reads_deep {s : List UInt8} {g : List Ru} (h : Reads s (.inr g)) : ∀ u ∈ g, RuOk u := by
  unfold Reads at h
  cases e1 : lexed s with
  | inl er => rw [e1] at h; cases h
  | inr l =>
    rw [e1] at h
    obtain ⟨f, h⟩ := h
    rcases h with ⟨_, _, _, e⟩ | ⟨g', r, q, e⟩
    · cases e
    · injection e with e
      subst e
      exact rules_deep f (lexed_ok2 e1) (fun u hu => by cases hu) q
end Go.Proofs.YteohgaheockepaaGreatDoor
namespace Go.Proofs.YteohgaheockepaaGreatDoor
open Go.RowKit

theorem ok_swap {f : Nat} {e : Tok} {S : List Tok} (he : e.kind = 6) (hS : StopT S) {d : Nat} {T T' r : List Tok} {n : Nd} {l l' : List Nd} (hT : NoEnd T) (hc : T.map bareT = T'.map bareT) (hl : SameL false l l') (h : pParts f d (T ++ [e]) l = some (.ok n r)) : ∃ T2 T2' m, r = T2 ++ [e] ∧ NoEnd T2 ∧ pParts f d (T' ++ S) l' = some (.ok m (T2' ++ S)) ∧ T2.map bareT = T2'.map bareT ∧ SameN false n m := by
  obtain ⟨T2, rfl, h2, g⟩ := (swap_all he hS f).parts (d' := d) hT hc (Nat.le_refl _) hl h
  rcases g with ⟨hne, _⟩ | ⟨m, T2', g, h3, h4⟩
  · exact absurd rfl hne
  · exact ⟨T2, T2', m, rfl, h2, g, h3, h4⟩
theorem badE_two {T : List Tok} : badE T ≠ 2 := by
  cases T with
  | nil => decide
  | cons t T => rw [badE]; split <;> decide
/-- An error stays the error. -/
structure Err2 (f : Nat) (e : Tok) (S : List Tok) : Prop where
  choice : ∀ {d x : Nat} {T T' : List Tok}, NoEnd T → T.map bareT = T'.map bareT → pChoice f d (T ++ [e]) = some (.err 2 x) → ∃ x', pChoice f d (T' ++ S) = some (.err 2 x')
  alts : ∀ {d x : Nat} {T T' : List Tok} {l l' : List Nd}, NoEnd T → T.map bareT = T'.map bareT → SameL false l l' → pAlts f d (T ++ [e]) l = some (.err 2 x) → ∃ x', pAlts f d (T' ++ S) l' = some (.err 2 x')
  parts : ∀ {d x : Nat} {T T' : List Tok} {l l' : List Nd}, NoEnd T → T.map bareT = T'.map bareT → SameL false l l' → pParts f d (T ++ [e]) l = some (.err 2 x) → ∃ x', pParts f d (T' ++ S) l' = some (.err 2 x')
  part : ∀ {d x : Nat} {T T' : List Tok}, NoEnd T → T.map bareT = T'.map bareT → pPart f d (T ++ [e]) = some (.err 2 x) → ∃ x', pPart f d (T' ++ S) = some (.err 2 x')
  one : ∀ {d x : Nat} {T T' : List Tok}, NoEnd T → T.map bareT = T'.map bareT → pOne f d (T ++ [e]) = some (.err 2 x) → ∃ x', pOne f d (T' ++ S) = some (.err 2 x')
theorem err2_all {e : Tok} {S : List Tok} (he : e.kind = 6) (hS : StopT S) : ∀ f, Err2 f e S := by
  intro f
  induction f with
  | zero => exact ⟨fun _ _ h => by simp [pChoice] at h, fun _ _ _ h => by simp [pAlts] at h, fun _ _ _ h => by simp [pParts] at h, fun _ _ h => by simp [pPart] at h, fun _ _ h => by simp [pOne] at h⟩
  | succ f ih =>
    refine ⟨fun {d x T T'} hT hc h => ?_, fun {d x T T' l l'} hT hc hl h => ?_, fun {d x T T' l l'} hT hc hl h => ?_, fun {d x T T'} hT hc h => ?_, fun {d x T T'} hT hc h => ?_⟩
    · rw [pChoice] at h
      rw [pChoice]
      cases e1 : pParts f d (T ++ [e]) [] with
      | none => rw [e1] at h; cases h
      | some y =>
        rw [e1] at h
        cases y with
        | err c1 x1 =>
          cases h
          obtain ⟨x', g⟩ := ih.parts hT hc .nil e1
          exact ⟨x', by rw [g]⟩
        | ok n r =>
          obtain ⟨T2, T2', m, rfl, h2, g, h3, h4⟩ := ok_swap he hS hT hc .nil e1
          rw [g]
          exact ih.alts h2 h3 (.cons h4 .nil) h
    · rw [pAlts] at h
      rw [pAlts]
      rcases sgn_bare (S := [e]) (S' := S) hc with ⟨rfl, rfl⟩ | ⟨hne, hs⟩
      · simp only [List.nil_append] at h
        rw [if_neg (end_stop he).sl] at h
        cases h
      · rw [← hs]
        split at h
        · next h47 =>
          rw [if_pos h47]
          obtain ⟨t, t', T1, T1', rfl, rfl, _, _, _, hc1⟩ := (bare_cases hc).resolve_left (fun h => hne h.1)
          simp only [List.cons_append, List.tail_cons] at h ⊢
          cases e1 : pParts f d (T1 ++ [e]) [] with
          | none => rw [e1] at h; cases h
          | some y =>
            rw [e1] at h
            cases y with
            | err c1 x1 =>
              cases h
              obtain ⟨x', g⟩ := ih.parts hT.tail hc1 .nil e1
              exact ⟨x', by rw [g]⟩
            | ok n r =>
              obtain ⟨T2, T2', m, rfl, h2, g, h3, h4⟩ := ok_swap he hS hT.tail hc1 .nil e1
              rw [g]
              exact ih.alts h2 h3 (hl.snoc h4) h
        · cases h
    · rw [pParts] at h
      rw [pParts]
      cases e1 : pPart f d (T ++ [e]) with
      | none => rw [e1] at h; cases h
      | some y =>
        rw [e1] at h
        cases y with
        | err c1 x1 =>
          cases h
          obtain ⟨x', g⟩ := ih.part hT hc e1
          exact ⟨x', by rw [g]⟩
        | ok a r =>
          obtain ⟨T2, rfl, h2, g⟩ := (swap_all he hS f).part (d' := d) hT hc (Nat.le_refl _) e1
          cases a with
          | none => cases h
          | some n =>
            rcases g with ⟨hne, _⟩ | ⟨m, T2', g, h3, h4⟩
            · exact absurd rfl hne
            · cases m with
              | none => exact h4.elim
              | some m =>
                rw [g]
                exact ih.parts h2 h3 (hl.snoc h4) h
    · have hp := pre_bare he hS hc
      obtain ⟨U, U', hU, hcU, eU, eU'⟩ : ∃ U U', NoEnd U ∧ U.map bareT = U'.map bareT ∧ (if preK (sgnOf (T ++ [e])) = 0 then T ++ [e] else (T ++ [e]).tail) = U ++ [e] ∧ (if preK (sgnOf (T' ++ S)) = 0 then T' ++ S else (T' ++ S).tail) = U' ++ S := by
        by_cases h0 : preK (sgnOf (T ++ [e])) = 0
        · exact ⟨T, T', hT, hc, by rw [if_pos h0], by rw [if_pos (by rw [← hp]; exact h0)]⟩
        · rcases bare_cases hc with ⟨rfl, rfl⟩ | ⟨t, t', T1, T1', rfl, rfl, _, _, _, hc1⟩
          · exact absurd (by simpa using (end_stop he).pre) h0
          · exact ⟨T1, T1', hT.tail, hc1, by rw [if_neg h0]; rfl, by rw [if_neg (by rw [← hp]; exact h0)]; rfl⟩
      cases e1 : pOne f d (U ++ [e]) with
      | none => rw [pPart, eU, e1] at h; cases h
      | some y =>
        cases y with
        | err c1 x1 =>
          rw [part_err (by rw [eU]; exact e1)] at h
          cases h
          obtain ⟨x', g⟩ := ih.one hU hcU e1
          exact ⟨x', part_err (by rw [eU']; exact g)⟩
        | ok a r =>
          obtain ⟨T2, rfl, h2, g⟩ := (swap_all he hS f).one (d' := d) hU hcU (Nat.le_refl _) e1
          cases a with
          | some n => rw [part_some (by rw [eU]; exact e1)] at h; cases h
          | none =>
            rw [pPart, eU, e1] at h
            simp only at h
            by_cases h0 : preK (sgnOf (T ++ [e])) = 0
            · rw [if_pos h0] at h; cases h
            · rw [if_neg h0] at h
              rcases g with ⟨hne, _⟩ | ⟨m, T2', g, h3, h4⟩
              · exact absurd rfl hne
              · cases m with
                | some m => exact h4.elim
                | none =>
                  have e2 := Option.some.inj h
                  injection e2 with e3 e4
                  exact absurd e3 badE_two
    · rcases bare_cases hc with ⟨rfl, rfl⟩ | ⟨t, t', T1, T1', rfl, rfl, hk, ht, _, hc1⟩
      · simp only [List.nil_append] at h
        rw [(end_stop he).one] at h
        cases h
      · have hb := kind_behind he hS hc1
        rw [List.cons_append, pOne] at h
        rw [List.cons_append, pOne, ← hk, ← ht]
        split at h
        · split at h <;> cases h
        next h1 =>
        rw [if_neg h1]
        split at h
        · cases h
        next h3 =>
        rw [if_neg h3]
        split at h
        · cases h
        next h4 =>
        rw [if_neg h4]
        split at h
        · cases h
        next h5 =>
        rw [if_neg h5]
        split at h
        · next h6 =>
          rw [if_pos h6]
          by_cases h24 : d = 24
          · rw [if_pos h24] at h
            rw [if_pos h24]
            have e2 := Option.some.inj h
            injection e2 with e3 e4
            exact ⟨_, rfl⟩
          · rw [if_neg h24] at h
            rw [if_neg h24]
            cases e1 : pChoice f (d + 1) (T1 ++ [e]) with
            | none => rw [e1] at h; cases h
            | some y =>
              rw [e1] at h
              cases y with
              | err c1 x1 =>
                cases h
                obtain ⟨x', g⟩ := ih.choice hT.tail hc1 e1
                exact ⟨x', by rw [g]⟩
              | ok n r =>
                obtain ⟨T2, rfl, h2, g⟩ := (swap_all he hS f).choice (d' := d + 1) hT.tail hc1 (Nat.le_refl _) e1
                rcases g with ⟨hne, _⟩ | ⟨m, T2', g, h3', h4'⟩
                · exact absurd rfl hne
                · simp only at h
                  by_cases h41 : sgnOf (T2 ++ [e]) = [41]
                  · rw [if_pos h41] at h; cases h
                  · rw [if_neg h41] at h
                    have e2 := Option.some.inj h
                    injection e2 with e3 e4
                    exact absurd e3 badE_two
        · cases h
end Go.Proofs.YteohgaheockepaaGreatDoor
namespace Go.Proofs.YteohgaheockepaaGreatDoor
open Go.RowKit

theorem cos_noEnd (l : List Pc) : ∀ p ∈ cos l, p.1 ≠ 6 := by
  induction l with
  | nil => intro p hp; cases hp
  | cons c l ih =>
    intro p hp
    rw [cos, List.mem_append] at hp
    rcases hp with hp | hp
    · cases c with
      | sp => cases hp
      | nl => cases hp
      | nm u => rw [List.mem_singleton.1 hp]; exact fun e => by cases e
      | sg b => rw [List.mem_singleton.1 hp]; exact fun e => by cases e
      | ar => rw [List.mem_singleton.1 hp]; exact fun e => by cases e
      | lt u => rw [List.mem_singleton.1 hp]; exact fun e => by cases e
      | cl x => rw [List.mem_singleton.1 hp]; exact fun e => by cases e
    · exact ih p hp
theorem core_noEnd {ts : List Tok} {l : List Pc} (h : ts.map core = cos l) : NoEnd ts := fun t ht => cos_noEnd l (core t) (by rw [← h]; exact List.mem_map_of_mem ht)
/-- Its tokens alone are read as it. -/
def Fit (n : Tr) : Prop := ∀ (T : List Tok) (e : Tok), e.kind = 6 → T.map core = cos (pcT n) → ∃ f m, pChoice f 0 (T ++ [e]) = some (.ok m [e]) ∧ SameT false n m.tr
theorem fit_of {n : Tr} (h : OkT n) {T' S r : List Tok} (hS : StopT S) (hc : T'.map core = cos (pcT n)) {f : Nat} {m : Nd} (h1 : pChoice f 0 (T' ++ S) = some (.ok m r)) : Fit n := by
  intro T e he hT
  rcases (main_tree h).cho 0 T [e] hT (end_stop he).row (end_stop he).sl with h2 | ⟨f2, x, h2⟩
  · exact h2
  · obtain ⟨x', h3⟩ := (err2_all he hS f2).choice (core_noEnd hT) (hT.trans hc.symm) h2
    have a := pChoice_mono h3 (Nat.le_max_left f2 f)
    have b := pChoice_mono h1 (Nat.le_max_right f2 f)
    rw [a] at b
    cases b
theorem rules_fit {e : Tok} (he : e.kind = 6) : ∀ (g : List Rr), (∀ r ∈ g, OkR r) → ∀ ts, ts.map core = cos (pcG g) → ∀ (f : Nat) (acc hs : List Ru) (r : List Tok), pRules f (ts ++ [e]) acc = some (.ok hs r) → ∀ x ∈ g, Fit x.body := by
  intro g
  induction g with
  | nil => intro _ _ _ _ _ _ _ _ x hx; cases hx
  | cons r g ih =>
    intro hr ts ht f acc hs rr h
    have hok := hr r List.mem_cons_self
    have ht2 : ts.map core = (1, r.name, 0) :: (2, [], 0) :: (cos (pcT r.body) ++ cos (pcG g)) := by
      rw [ht]
      show cos (.nm r.name :: .sp :: .ar :: .sp :: ((pcT r.body ++ [.nl]) ++ pcG g)) = _
      rw [List.append_assoc]
      show (1, r.name, 0) :: (2, [], 0) :: cos (pcT r.body ++ (.nl :: pcG g)) = _
      rw [cos_app]
      rfl
    obtain ⟨a, t0, rfl, a1, a2, _, ht3⟩ := core_cons ht2
    obtain ⟨b, t3, rfl, b1, _, _, ht4⟩ := core_cons ht3
    obtain ⟨t1, t2, rfl, h1, h2⟩ := core_app ht4
    dsimp only at a1 a2 b1
    have hg := fun m hm => hr m (List.mem_cons_of_mem _ hm)
    obtain ⟨⟨g1, g2⟩, _⟩ := rules_list he g hg t2 h2
    have ek : kindT (a :: b :: (t1 ++ t2) ++ [e]) = 1 := a1
    have ek2 : kindT (a :: b :: (t1 ++ t2) ++ [e]).tail = 2 := b1
    have et : (a :: b :: (t1 ++ t2) ++ [e]).tail.tail = t1 ++ (t2 ++ [e]) := by simp
    cases f with
    | zero => cases h
    | succ f =>
      rw [pRules, if_neg (by rw [ek]; omega)] at h
      split at h
      · cases h
      rw [if_neg (fun h => h ek), if_neg (fun h => h ek2), et] at h
      cases e1 : pChoice f 0 (t1 ++ (t2 ++ [e])) with
      | none => rw [e1] at h; cases h
      | some y =>
        rw [e1] at h
        cases y with
        | err c x => cases h
        | ok n r2 =>
          have hfit := fit_of hok.2 ⟨g2, g1.pre, g1.suf, g1.arrow, g1.one⟩ h1 e1
          obtain rfl : r2 = t2 ++ [e] := by
            rcases (main_tree hok.2).cho 0 t1 (t2 ++ [e]) h1 g1 g2 with ⟨f2, m, q1, _⟩ | ⟨f2, x, q⟩
            · have p1 := pChoice_mono q1 (Nat.le_max_left f2 f)
              have p2 := pChoice_mono e1 (Nat.le_max_right f2 f)
              rw [p1] at p2
              injection p2 with p2
              injection p2 with _ p2
              exact p2.symm
            · have p1 := pChoice_mono q (Nat.le_max_left f2 f)
              have p2 := pChoice_mono e1 (Nat.le_max_right f2 f)
              rw [p1] at p2
              cases p2
          intro x hx
          rcases List.mem_cons.1 hx with rfl | hx
          · exact hfit
          · exact ih hg t2 h2 f _ hs rr h x hx
/-- Each rule of a grammar whose text is read. -/
theorem gram_fit {g : List Rr} (h : ∀ r ∈ g, OkR r) (h8 : (txG g).length ≤ 8192) {hs : List Ru} (hr : Reads (txG g) (.inr hs)) : ∀ r ∈ g, Fit r.body := by
  rw [← txs_gram] at h8 hr
  obtain ⟨r, h1, h2⟩ := good_lexed (good_gram g h) h8
  unfold Reads at hr
  rw [h1] at hr
  obtain ⟨f, hr⟩ := hr
  rcases hr with ⟨c, x, _, e⟩ | ⟨g', r', q, _⟩
  · cases e
  · exact rules_fit rfl g h r h2 f [] g' r' q
/-- A rule of it, by another name, with a line's end or without. -/
theorem fit_reads {n : Tr} (h : OkT n) (hf : Fit n) {nm : List UInt8} (hn : isName nm = true) (X : List Pc) (hX : Good X) (hc : cos X = []) (hs : StopB (txs X)) (h8 : (nm ++ ([32, 60, 45, 32] ++ (txT n ++ txs X))).length ≤ 8192) : ∃ m x, Reads (nm ++ ([32, 60, 45, 32] ++ (txT n ++ txs X))) (.inr [⟨nm, m, x⟩]) ∧ SameT false n m.tr := by
  have hg : Good (.nm nm :: .sp :: .ar :: .sp :: (pcT n ++ X)) := ⟨hn, fun u e => stop_blank _, trivial, fun u e => (by cases e), trivial, fun u e => (by cases e), trivial, fun u e => (by cases e), good_tree h X hX hs⟩
  have htx : txs (.nm nm :: .sp :: .ar :: .sp :: (pcT n ++ X)) = nm ++ ([32, 60, 45, 32] ++ (txT n ++ txs X)) := by
    show nm ++ (32 :: 60 :: 45 :: 32 :: txs (pcT n ++ X)) = _
    rw [txs_app]
    rfl
  rw [← htx] at h8 ⊢
  obtain ⟨r, h1, h2⟩ := good_lexed hg h8
  have ht2 : r.map core = (1, nm, 0) :: (2, [], 0) :: cos (pcT n) := by
    rw [h2]
    show (1, nm, 0) :: (2, [], 0) :: cos (pcT n ++ X) = _
    rw [cos_app, hc, List.append_nil]
  obtain ⟨a, t0, rfl, a1, a2, _, ht3⟩ := core_cons ht2
  obtain ⟨b, t1, rfl, b1, _, _, ht4⟩ := core_cons ht3
  dsimp only at a1 a2 b1
  obtain ⟨e, he, hE⟩ : ∃ e : Tok, e.kind = 6 ∧ e = ⟨6, [], 0, (txs (.nm nm :: .sp :: .ar :: .sp :: (pcT n ++ X))).length⟩ := ⟨_, rfl, rfl⟩
  rw [← hE] at h1
  obtain ⟨f, m, q1, q2⟩ := hf t1 e he ht4
  have ek : kindT (a :: b :: t1 ++ [e]) = 1 := a1
  have ek2 : kindT (a :: b :: t1 ++ [e]).tail = 2 := b1
  have et : (a :: b :: t1 ++ [e]).tail.tail = t1 ++ [e] := rfl
  refine ⟨m, a.pos, ?_, q2⟩
  unfold Reads
  rw [h1]
  refine ⟨f + 2, .inr ⟨[⟨nm, m, a.pos⟩], [e], ?_, rfl⟩⟩
  rw [pRules, if_neg (by rw [ek]; omega), if_neg (fun h => absurd h.1 (by simp)), if_neg (fun h => h ek), if_neg (fun h => h ek2), et, pChoice_mono q1 (Nat.le_succ f)]
  show pRules (f + 1) [e] [⟨a.text, m, a.pos⟩] = _
  rw [pRules, if_pos ⟨by simp, he⟩, a2]
end Go.Proofs.YteohgaheockepaaGreatDoor
