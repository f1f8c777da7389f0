/- The tokens of bytes that stand elsewhere too, in a source that ends with a line's end: plain. | Parentheses round a rule's body leave no trace: plain. | Parse's deferred closure: where a fault is thrown, and where none is. | The walk of Parse. | A drawn region whose panics' post may speak of slots that the region does not write. -/
import Derived.Test.YtlohpplpnddfaaaDoorG16
import Derived.Test.YtlohpplpnddfaaaDoorG18
import Derived.Test.YtlohpplpnddfaaaDoorG15
import Derived.Test.YtlohpplpnddfaaaDoorG11
import Derived.Deep.RegionHeld3
namespace Go.Proofs.YtlohpplpnddfaaaDoor
open Go.RowKit

/-- A note in bytes that end with a line's end, and more behind them. -/
theorem note_more {v y : List UInt8} {i : Nat} (hi : i < (v ++ [10]).length) : noteEnd (v ++ [10] ++ y) i = noteEnd (v ++ [10]) i ∧ noteEnd (v ++ [10]) i < (v ++ [10]).length := by
  have hge := Lib.indexByte_ge ((v ++ [10]).drop i) 10
  have hlen : (v ++ [10]).length = v.length + 1 := by simp
  rcases Int.lt_or_le (Lib.indexByte ((v ++ [10]).drop i) 10) 0 with hneg | hpos
  · exfalso
    have h := indexByte_none (show Lib.indexByte ((v ++ [10]).drop i) 10 = -1 by omega) (v.length - i)
    apply h
    rw [List.getElem?_drop, show i + (v.length - i) = v.length by omega]
    simp
  · obtain ⟨k, hk⟩ := Int.eq_ofNat_of_zero_le hpos
    have h1 := (indexByte_some hk).1
    rw [List.getElem?_drop] at h1
    have hks : i + k < (v ++ [10]).length := (List.getElem?_eq_some_iff.1 h1).1
    have hk2 : Lib.indexByte ((v ++ [10] ++ y).drop i) 10 = k := by
      rw [List.drop_append_of_le_length (by omega)]
      exact index_ext hk
    unfold noteEnd
    rw [hk, hk2, if_pos (by omega), if_pos (by omega)]
    exact ⟨rfl, by simpa using hks⟩
theorem agr_more {p p' u y : List UInt8} (i : Nat) : Agr (p ++ u) (p' ++ (u ++ y)) (p.length + i) (p'.length + i) (p ++ u).length := by
  intro j hj
  rw [show p'.length + i + j = p'.length + (i + j) by omega, show p.length + i + j = p.length + (i + j) by omega, byteAt_sh, byteAt_sh]
  exact byteAt_ext (by simp at hj; omega)
/-- The tokens from a place on are those of the same bytes elsewhere. -/
theorem toks_moved {p p' v y : List UInt8} (hy : ∀ i, cont i (byteAt (p' ++ (v ++ [10] ++ y)) (p'.length + (v ++ [10]).length)) = false) :
    ∀ {f i : Nat} {acc r : List Tok}, toksGo (p ++ (v ++ [10])) f (p.length + i) acc = .inr r → i ≤ (v ++ [10]).length → ∀ (g : Nat) (acc' : List Tok), (p' ++ (v ++ [10] ++ y)).length < g + (p'.length + i) →
      ∃ T T' g', r = acc ++ T ++ [⟨6, [], 0, (p ++ (v ++ [10])).length⟩] ∧ T.map bareT = T'.map bareT ∧ toksGo (p' ++ (v ++ [10] ++ y)) g (p'.length + i) acc' = toksGo (p' ++ (v ++ [10] ++ y)) g' (p'.length + (v ++ [10]).length) (acc' ++ T') ∧ (p' ++ (v ++ [10] ++ y)).length < g' + (p'.length + (v ++ [10]).length) := by
  intro f
  induction f with
  | zero => intro i acc r h; cases h
  | succ f ih =>
    intro i acc r h hi g acc' hg
    have hl1 : (p ++ (v ++ [10])).length = p.length + (v ++ [10]).length := by rw [List.length_append]
    have hl2 : (p' ++ (v ++ [10] ++ y)).length = p'.length + ((v ++ [10]).length + y.length) := by
      rw [List.length_append]; congr 1; exact List.length_append
    rw [toksGo, hl1] at h
    by_cases h1 : p.length + (v ++ [10]).length ≤ p.length + i
    · rw [if_pos h1] at h
      obtain rfl : i = (v ++ [10]).length := by omega
      refine ⟨[], [], g, ?_, rfl, by simp, hg⟩
      rw [← Sum.inr.inj h, List.append_nil, hl1]
    rw [if_neg h1] at h
    have hag := agr_more (p := p) (p' := p') (u := v ++ [10]) (y := y) i
    have hb : byteAt (p' ++ (v ++ [10] ++ y)) (p'.length + i) = byteAt (p ++ (v ++ [10])) (p.length + i) := hag.here (by omega)
    obtain ⟨g, rfl⟩ : ∃ k, g = k + 1 := ⟨g - 1, by omega⟩
    rw [toksGo, if_neg (by omega), hb]
    by_cases h2 : byteAt (p ++ (v ++ [10])) (p.length + i) = 35
    · rw [if_pos h2] at h ⊢
      have hn := note_more (v := v) (y := y) (i := i) (by omega)
      have hbd := noteEnd_bd (s := v ++ [10]) (a := i) (by omega) (by rw [← byteAt_sh p, h2]; decide)
      rw [note_sh] at h ⊢
      rw [hn.1]
      exact ih h (by omega) g acc' (by omega)
    rw [if_neg h2] at h ⊢
    cases h3 : isBlank (byteAt (p ++ (v ++ [10])) (p.length + i))
    · rw [h3, if_neg (by decide)] at h
      rw [if_neg (by decide)]
      split at h
      · cases h
      · next t n e =>
        have hbd := tokAt_bd (by omega) e
        rw [hl1] at hbd
        obtain ⟨m, rfl⟩ : ∃ m, n = p.length + m := ⟨n - p.length, by omega⟩
        have htok := tok_agr (t := p' ++ (v ++ [10] ++ y)) (b := p'.length + i) (by omega) e (hag.mono (by omega)) (by
          intro hk
          unfold Ends
          rcases Nat.lt_or_ge m (v ++ [10]).length with hlt | hge
          · have hx := hag (p.length + m - (p.length + i)) (by omega)
            rw [hx]
            have hnm : nameLen (p ++ (v ++ [10])) (p.length + i) = p.length + m - (p.length + i) := by
              unfold tokAt at e
              split at e
              · cases e
              split at e
              · simp at e; omega
              split at e
              · simp at e; obtain ⟨e1, _⟩ := e; subst e1; simp at hk
              split at e
              · simp at e; obtain ⟨e1, _⟩ := e; subst e1; simp at hk
              split at e
              · split at e
                · cases e
                · simp at e; obtain ⟨e1, _⟩ := e; subst e1; simp at hk
              split at e
              · split at e
                · cases e
                · simp at e; obtain ⟨e1, _⟩ := e; subst e1; simp at hk
              cases e
            have hs := (nameLen_spec (p ++ (v ++ [10])) (p.length + i)).2
            rw [hnm] at hs
            exact hs
          · obtain rfl : m = (v ++ [10]).length := by omega
            have e5 : p'.length + i + (p.length + (v ++ [(10 : UInt8)]).length - (p.length + i)) = p'.length + (v ++ [(10 : UInt8)]).length := by omega
            rw [e5]
            exact hy _)
        rw [htok]
        simp only
        rw [show p'.length + i + (p.length + m - (p.length + i)) = p'.length + m by omega]
        obtain ⟨T, T', g', e1, e2, e3, e4⟩ := ih h (by omega) g (acc' ++ [⟨t.kind, t.text, t.cls, p'.length + i⟩]) (by omega)
        refine ⟨t :: T, ⟨t.kind, t.text, t.cls, p'.length + i⟩ :: T', g', by rw [e1]; simp, by rw [List.map_cons, List.map_cons, e2]; rfl, by rw [e3]; simp, e4⟩
    · rw [h3, if_pos rfl] at h
      rw [if_pos rfl]
      exact ih (i := i + 1) h (by omega) g acc' (by omega)
end Go.Proofs.YtlohpplpnddfaaaDoor
namespace Go.Proofs.YtlohpplpnddfaaaDoor
open Go.RowKit

/-- What stands ahead of the body. -/
def ruleL : List UInt8 := [114, 117, 108, 101, 32, 60, 45, 32]
def tokR : Tok := ⟨1, [114, 117, 108, 101], 0, 0⟩
def tokA : Tok := ⟨2, [], 0, 5⟩
theorem pre_rule (x : List UInt8) (g : Nat) : toksGo (ruleL ++ x) (g + 4) 0 [] = toksGo (ruleL ++ x) g 8 [tokR, tokA] := by
  have hl : (ruleL ++ x).length = 8 + x.length := by rw [List.length_append]; rfl
  have hb : ∀ j, j < 8 → byteAt (ruleL ++ x) j = byteAt ruleL j := fun j hj => byteAt_ext hj
  have hag : ∀ a, Agr ruleL (ruleL ++ x) a a 8 := fun a j hj => hb _ hj
  have e1 : tokAt (ruleL ++ x) 0 = .inr (tokR, 4) := tok_agr (s := ruleL) (a := 0) (b := 0) (n := 4) (k := tokR) (by decide) rfl ((hag 0).mono (by decide)) (fun _ => by unfold Ends; rw [hb 4 (by decide)]; rfl)
  have e2 : tokAt (ruleL ++ x) 5 = .inr (tokA, 7) := tok_agr (s := ruleL) (a := 5) (b := 5) (n := 7) (k := tokA) (by decide) rfl ((hag 5).mono (by decide)) (fun h => by cases h)
  rw [toks_on (by omega) (by rw [hb 0 (by decide)]; decide) (by rw [hb 0 (by decide)]; rfl) e1, toks_blank (by omega) (by rw [hb 4 (by decide)]; decide) (by rw [hb 4 (by decide)]; rfl), toks_on (by omega) (by rw [hb 5 (by decide)]; decide) (by rw [hb 5 (by decide)]; rfl) e2, toks_blank (by omega) (by rw [hb 7 (by decide)]; decide) (by rw [hb 7 (by decide)]; rfl)]
  rfl
theorem sign_here {t : List UInt8} {q : Nat} {b : UInt8} {acc : List Tok} {g : Nat} (hq : q < t.length) (hb : byteAt t q = b.toNat) (hs : isSign b.toNat = true) (hn : ∀ i, cont i b.toNat = false) (h35 : b.toNat ≠ 35) (hk : isBlank b.toNat = false) : toksGo t (g + 1) q acc = toksGo t g (q + 1) (acc ++ [⟨5, [b], 0, q⟩]) := by
  have h0 : nameLen t q = 0 := nameLen_is (fun j hj => by omega) (by rw [Nat.add_zero, hb]; exact hn 0)
  have e : tokAt t q = .inr (⟨5, [b], 0, q⟩, q + 1) := by
    unfold tokAt
    rw [h0, if_neg (by decide), if_neg (by decide), hb, if_pos hs]
    simp
  exact toks_on hq (by rw [hb]; exact h35) (by rw [hb]; exact hk) e
theorem ends_noEnd {T : List Tok} {e : Tok} (h : EndsT (T ++ [e])) : NoEnd T := by
  induction T with
  | nil => intro t ht; cases ht
  | cons t T ih =>
    cases hT : T ++ [e] with
    | nil => simp at hT
    | cons u m =>
      rw [List.cons_append, hT] at h
      intro t' ht'
      rcases List.mem_cons.1 ht' with rfl | ht'
      · exact h.1
      · exact ih (by rw [hT]; exact h.2) t' ht'
theorem EndsT.tail {t : Tok} {l : List Tok} (h : EndsT (t :: l)) (hl : l ≠ []) : EndsT l := by
  cases l with
  | nil => exact absurd rfl hl
  | cons u l => exact h.2
/-- The tokens of the two sources. -/
theorem brk_lexed {v : List UInt8} {l1 l2 : List Tok} (h1 : lexed (ruleL ++ (v ++ [10])) = .inr l1) (h2 : lexed (ruleL ++ [40] ++ (v ++ [10] ++ [41])) = .inr l2) :
    ∃ T T' e c e', l1 = tokR :: tokA :: (T ++ [e]) ∧ l2 = tokR :: tokA :: ⟨5, [40], 0, 8⟩ :: (T' ++ [c, e']) ∧ e.kind = 6 ∧ c.kind = 5 ∧ c.text = [41] ∧ e'.kind = 6 ∧ NoEnd T ∧ T.map bareT = T'.map bareT := by
  have hE := (toks_ends (lexed_inr h1).2).1
  have g1 := (lexed_inr h1).2
  have g2 := (lexed_inr h2).2
  have hlr : ruleL.length = 8 := rfl
  have hlr2 : (ruleL ++ [40]).length = 9 := rfl
  have hl1 : (ruleL ++ (v ++ [10])).length = 8 + (v.length + 1) := by simp [ruleL]; omega
  have hl2 : (ruleL ++ [40] ++ (v ++ [10] ++ [41])).length = 9 + (v.length + 1 + 1) := by simp [ruleL]; omega
  have hlv : (v ++ [10]).length = v.length + 1 := by simp
  have hy : byteAt (ruleL ++ [40] ++ (v ++ [10] ++ [41])) ((ruleL ++ [40]).length + (v ++ [10]).length) = 41 := by
    rw [byteAt_sh]
    unfold byteAt
    rw [List.getElem?_append_right (by omega), Nat.sub_self]
    rfl
  unfold toks at g1 g2
  obtain ⟨F1, hF1⟩ : ∃ F, 2 * (ruleL ++ (v ++ [10])).length + 2 = F + 4 := ⟨2 * (ruleL ++ (v ++ [10])).length - 2, by omega⟩
  obtain ⟨F2, hF2⟩ : ∃ F, 2 * (ruleL ++ [40] ++ (v ++ [10] ++ [41])).length + 2 = F + 1 + 4 := ⟨2 * (ruleL ++ [40] ++ (v ++ [10] ++ [41])).length - 3, by omega⟩
  rw [hF1, pre_rule] at g1
  rw [hF2, List.append_assoc, pre_rule, ← List.append_assoc] at g2
  have hb8 : byteAt (ruleL ++ [40] ++ (v ++ [10] ++ [41])) 8 = (40 : UInt8).toNat := by
    rw [byteAt_ext (by decide)]; rfl
  rw [sign_here (by omega) hb8 (by decide) (fun i => by simp [cont, isLet, isDig]) (by decide) (by decide)] at g2
  obtain ⟨T, T', g', e1, e2, e3, e4⟩ := toks_moved (p := ruleL) (p' := ruleL ++ [40]) (v := v) (y := [41]) (fun i => by rw [hy]; simp [cont, isLet, isDig]) (i := 0) (f := F1) (acc := [tokR, tokA]) (r := l1) g1 (Nat.zero_le _) F2 [tokR, tokA, ⟨5, [40], 0, 8⟩] (by omega)
  rw [Nat.add_zero, hlr2] at e3
  have e3' : toksGo (ruleL ++ [40] ++ (v ++ [10] ++ [41])) F2 (8 + 1) ([tokR, tokA] ++ [⟨5, [40], 0, 8⟩]) = _ := e3
  rw [e3'] at g2
  obtain ⟨g', rfl⟩ : ∃ k, g' = k + 2 := ⟨g' - 2, by omega⟩
  rw [sign_here (b := 41) (by omega) (by rw [← hlr2]; exact hy) (by decide) (fun i => by simp [cont, isLet, isDig]) (by decide) (by decide), toks_end (by omega)] at g2
  have g3 := Sum.inr.inj g2
  refine ⟨T, T', _, ⟨5, [41], 0, 9 + (v ++ [10]).length⟩, ⟨6, [], 0, (ruleL ++ [40] ++ (v ++ [10] ++ [41])).length⟩, by rw [e1]; rfl, by rw [← g3]; simp only [List.append_assoc, List.cons_append, List.nil_append], rfl, rfl, rfl, rfl, ?_, e2⟩
  rw [e1] at hE
  have hE2 : EndsT (tokR :: tokA :: (T ++ [⟨6, [], 0, (ruleL ++ (v ++ [10])).length⟩])) := hE
  exact ends_noEnd ((hE2.tail (by simp)).tail (by simp))
theorem rules_grow : ∀ {f : Nat} {rs : List Tok} {l g : List Ru} {r : List Tok}, pRules f rs l = some (.ok g r) → l.length ≤ g.length := by
  intro f
  induction f with
  | zero => intro rs l g r h; cases h
  | succ f ih =>
    intro rs l g r h
    rw [pRules] at h
    split at h
    · have e := Option.some.inj h; injection e with e1 e2; subst e1; exact Nat.le_refl _
    split at h
    · cases h
    split at h
    · cases h
    split at h
    · cases h
    split at h
    · cases h
    · cases h
    · have := ih h; simp at this; omega
/-- One rule: the choice behind its arrow goes to the end. -/
theorem rules_one {f : Nat} {t a : Tok} {rs r : List Tok} {x : Ru} (h : pRules f (t :: a :: rs) [] = some (.ok [x] r)) : ∃ f' n, pChoice f' 0 rs = some (.ok n r) ∧ kindT r = 6 ∧ x = ⟨t.text, n, t.pos⟩ := by
  cases f with
  | zero => cases h
  | succ f =>
    rw [pRules, if_neg (by simp), if_neg (by simp)] at h
    split at h
    · cases h
    split at h
    · cases h
    split at h
    · cases h
    · cases h
    · next n rs2 e =>
      have e' : pChoice f 0 rs = some (.ok n rs2) := e
      cases f with
      | zero => cases h
      | succ f =>
        rw [pRules] at h
        split at h
        · next hk =>
          have e2 := Option.some.inj h
          injection e2 with e3 e4
          subst e4
          simp at e3
          exact ⟨f + 1, n, e', hk.2, e3.symm⟩
        split at h
        · cases h
        split at h
        · cases h
        split at h
        · cases h
        split at h
        · cases h
        · cases h
        · have := rules_grow h; simp at this
theorem pParts_one {f d : Nat} {rs : List Tok} {n : Nd} {e : Tok} (h : pPart f d rs = some (.ok (some n) [e])) (he : e.kind = 6) : ∃ f', pParts f' d rs [] = some (.ok n [e]) := by
  refine ⟨f + 3, ?_⟩
  rw [pParts, pPart_mono h (by omega)]
  show pParts (f + 2) d [e] [n] = _
  have h2 : pPart (f + 1) d [e] = some (.ok none [e]) := by
    have hpre := (end_stop he).pre
    cases f with
    | zero => simp [pPart] at h
    | succ f => rw [pPart, if_pos hpre, (end_stop he).one]; simp only; rw [if_pos hpre]
  rw [pParts, h2]
  rfl
theorem pChoice_one {f d : Nat} {rs : List Tok} {n : Nd} {e : Tok} (h : pParts f d rs [] = some (.ok n [e])) (he : e.kind = 6) : ∃ f', pChoice f' d rs = some (.ok n [e]) := by
  refine ⟨f + 2, ?_⟩
  rw [pChoice, pParts_mono h (by omega)]
  show pAlts (f + 1) d [e] [n] = _
  rw [pAlts, if_neg (end_stop he).sl]
  rfl
/-- What is read of the two sources is the same. -/
theorem brk_same {v : List UInt8} {a b : List Ru} (h1 : Reads (ruleL ++ (v ++ [10])) (.inr a)) (h2 : Reads (ruleL ++ [40] ++ (v ++ [10] ++ [41])) (.inr b)) (hl : a.length = 1) : SameG false a b := by
  obtain ⟨x, rfl⟩ : ∃ x, a = [x] := by
    match a, hl with
    | [x], _ => exact ⟨x, rfl⟩
  unfold Reads at h1 h2
  cases e1 : lexed (ruleL ++ (v ++ [10])) with
  | inl er => rw [e1] at h1; cases h1
  | inr l1 =>
    cases e2 : lexed (ruleL ++ [40] ++ (v ++ [10] ++ [41])) with
    | inl er => rw [e2] at h2; cases h2
    | inr l2 =>
      rw [e1] at h1
      rw [e2] at h2
      obtain ⟨f1, h1⟩ := h1
      obtain ⟨f2, h2⟩ := h2
      rcases h1 with ⟨_, _, _, h1⟩ | ⟨g1, r1, h1, hg1⟩
      · cases h1
      rcases h2 with ⟨_, _, _, h2⟩ | ⟨g2, r2, h2, hg2⟩
      · cases h2
      cases hg1
      cases hg2
      obtain ⟨T, T', e, c, e', rfl, rfl, he, hc, hct, he', hT, hbt⟩ := brk_lexed e1 e2
      obtain ⟨f, n, hch, hk, rfl⟩ := rules_one h1
      have hS : StopT [c, e'] := by
        have hs : sgnOf [c, e'] = [41] := by rw [sgnOf, if_pos hc, hct]
        refine ⟨by rw [hs]; decide, by rw [hs]; rfl, by rw [hs]; rfl, by show c.kind ≠ 2; omega, fun f d => ?_⟩
        rw [pOne, if_neg (by omega), if_neg (by omega), if_neg (by omega), if_neg (by rw [hct]; simp), if_neg (by rw [hct]; simp)]
      obtain ⟨T2, rfl, hT2, g⟩ := (swap_all he hS f).choice (d' := 1) hT hbt (by decide) hch
      obtain rfl : T2 = [] := by
        cases T2 with
        | nil => rfl
        | cons u U => exact absurd hk (hT2 u (by simp))
      have hw : sgnOf [c, e'] = [41] := by rw [sgnOf, if_pos hc, hct]
      have key : ∀ {F : Nat} {r : PR Nd}, pChoice F 1 (T' ++ [c, e']) = some r → (∀ x, r = .err 2 x → False) ∧ (∀ m, r = .ok m [c, e'] → SameN false n m → SameG false [⟨tokR.text, n, tokR.pos⟩] b) := by
        intro F r hF
        have hone : pOne (F + 1) 0 (⟨5, [40], 0, 8⟩ :: (T' ++ [c, e'])) = (match some r with
            | none => none
            | some (.err c x) => some (.err c x)
            | some (.ok n rs2) => if sgnOf rs2 = [41] then some (.ok (some n) rs2.tail) else some (.err (badE rs2) (posT rs2)) : Option (PR (Option Nd))) := by
          rw [pOne, if_neg (by decide), if_neg (by decide), if_neg (by decide), if_neg (by decide), if_pos (by decide), if_neg (by decide), hF]
          cases r <;> rfl
        have hpre : preK (sgnOf (⟨5, [40], 0, 8⟩ :: (T' ++ [c, e']))) = 0 := rfl
        refine ⟨fun x hr => ?_, fun m hr hs => ?_⟩
        · subst hr
          have hp : pPart (F + 2) 0 (⟨5, [40], 0, 8⟩ :: (T' ++ [c, e'])) = some (.err 2 x) := part_err (by rw [if_pos hpre]; exact hone)
          have hr : pRules (F + 5) (tokR :: tokA :: ⟨5, [40], 0, 8⟩ :: (T' ++ [c, e'])) [] = some (.err 2 x) := by
            rw [pRules, if_neg (by simp), if_neg (by simp), if_neg (fun h => h rfl), if_neg (fun h => h rfl), show (tokR :: tokA :: (⟨5, [40], 0, 8⟩ : Tok) :: (T' ++ [c, e'])).tail.tail = ⟨5, [40], 0, 8⟩ :: (T' ++ [c, e']) from rfl, pChoice, pParts, hp]
          have := pRules_det hr h2
          cases this
        · subst hr
          simp only [if_pos hw] at hone
          have hsuf : sufK (sgnOf [e']) = 0 := (end_stop he').suf
          have hp := part_some (f := F + 1) (d := 0) (rs := ⟨5, [40], 0, 8⟩ :: (T' ++ [c, e'])) (rs2 := [e']) (n := m) (by rw [if_pos hpre]; exact hone)
          rw [hpre, hsuf, if_pos rfl] at hp
          have hp2 : pPart (F + 2) 0 (⟨5, [40], 0, 8⟩ :: (T' ++ [c, e'])) = some (.ok (some m) [e']) := hp
          obtain ⟨F3, h3⟩ := pParts_one hp2 he'
          obtain ⟨F4, h4⟩ := pChoice_one h3 he'
          have hr : pRules (F4 + 2) (tokR :: tokA :: ⟨5, [40], 0, 8⟩ :: (T' ++ [c, e'])) [] = some (.ok [⟨tokR.text, m, tokR.pos⟩] [e']) := by
            rw [pRules, if_neg (by simp), if_neg (by simp), if_neg (fun h => h rfl), if_neg (fun h => h rfl), show (tokR :: tokA :: (⟨5, [40], 0, 8⟩ : Tok) :: (T' ++ [c, e'])).tail.tail = ⟨5, [40], 0, 8⟩ :: (T' ++ [c, e']) from rfl, pChoice_mono h4 (by omega)]
            simp only [List.nil_append]
            rw [pRules, if_pos ⟨by simp, he'⟩]
            rfl
          have := pRules_det hr h2
          injection this with h5 h6
          subst h5
          exact .cons hs (fun h => by cases h) .nil
      rcases g with ⟨_, x, g⟩ | ⟨m, T2', g, hb2, hs⟩
      · exact ((key g).1 x rfl).elim
      · obtain rfl : T2' = [] := by
          cases T2' with
          | nil => rfl
          | cons u U => simp at hb2
        exact (key g).2 m rfl hs
end Go.Proofs.YtlohpplpnddfaaaDoor
namespace Go.Proofs.YtlohpplpnddfaaaDoor
open Go.RowKit Go.Sort

set_option maxRecDepth 100000 in
set_option maxHeartbeats 1600000 in
theorem catch_fault (b2 b3 p : Nat) (v : Value) (older : List PanicEntry) (w : World) (h2 : w.heap[b2]? = some (.cells #[v] 61 (0, 0))) (h3 : w.heap[b3]? = some (.cells #[.nilIface] 26 (0, 0))) (hne : b2 ≠ b3) :
    CallsD Tryd.prog 71 #[.pointer (some ⟨b2, 0, none⟩), .pointer (some ⟨b3, 0, none⟩)] (.panicking ({ v := .iface 90 (.pointer (some ⟨p, 0, none⟩)), recovered := false } :: older)) w fun e u' w' =>
      e = .returned (.tuple #[]) ∧ u' = .panicking ({ v := .iface 90 (.pointer (some ⟨p, 0, none⟩)), recovered := true } :: older) ∧ w' = (w.setCell ⟨b2, 0, none⟩ (.slice none 0 0)).setCell ⟨b3, 0, none⟩ (.iface 90 (.pointer (some ⟨p, 0, none⟩))) := by
  obtain ⟨c2, f2, q2⟩ := cells_at h2
  obtain ⟨c3, f3, q3⟩ := cells_at h3
  have d2 : w.cell? ⟨b2, 0, none⟩ = some v := c2 0
  have d3 : w.cell? ⟨b3, 0, none⟩ = some .nilIface := c3 0
  have d4 : (w.setCell ⟨b2, 0, none⟩ (.slice none 0 0)).cell? ⟨b3, 0, none⟩ = some .nilIface := (cell_set_ne w _ _ b3 0 (fun e => hne (by have e2 : b3 = b2 := e; exact e2.symm))).trans d3
  have hta : ∀ (w : World) (a : Option Addr), (Instr.typeAssert (.iface 90 (.pointer a)) 20 90 true).run Tryd.prog w = .ok (.tuple #[.pointer a, .bool true]) w := fun _ _ => by kernel_rfl
  refine callsD_of_wpS Tryd.func71 rfl fun c₀ cs hu => ?_
  apply wpS_seq
  apply wpS_region
  simp [wpOpsS, go_sem, recoverD, hu, Tryd.ntmps71, Exit.thenS]
  refine wpS_of_wp ?_
  repeat (first | go_values | go_skip | go_guarded | go_step | go_upon)
  refine ⟨rfl, _, rfl, .tuple #[], ?_, rfl, rfl, rfl⟩
  simp [results, Tryd.results71, go_sem]
theorem catch_none (b2 b3 : Nat) (w : World) :
    CallsD Tryd.prog 71 #[.pointer (some ⟨b2, 0, none⟩), .pointer (some ⟨b3, 0, none⟩)] .returning w fun e u' w' => e = .returned (.tuple #[]) ∧ u' = .returning ∧ w' = w := by
  refine callsD_of_wpS Tryd.func71 rfl fun c₀ cs hu => ?_
  apply wpS_seq
  apply wpS_region
  simp [wpOpsS, go_sem, recoverD, hu, Tryd.ntmps71, Exit.thenS]
  refine wpS_of_wp ?_
  repeat (first | go_values | go_skip | go_guarded | go_step | go_upon)
  simp [bodyPostS, results, Tryd.results71, go_sem]
  cases c₀
  simp_all
end Go.Proofs.YtlohpplpnddfaaaDoor
namespace Go.Proofs.YtlohpplpnddfaaaDoor
open Go.RowKit Go.Sort

/-- What Parse answers. -/
def ParseP (s : List UInt8) (w : World) (e : Ending) (w' : World) : Prop := Below w.heap.size w w' ∧ ∃ r, Reads s r ∧ match r with
  | .inl (c, x) => AnsFaultI c x w (fun v => .tuple #[.agg #[.slice none 0 0], v]) e w'
  | .inr g => ∃ v, e = .returned (.tuple #[.agg #[v], .nilIface]) ∧ GRep w' (Fresh w w') g v
set_option maxRecDepth 100000 in
set_option maxHeartbeats 6400000 in
theorem syn_no (S : ByteArray) (w : World) (hg : Laid w) (hs : S.size ≤ 140737488355328) {er : Nat × Int} (hL : lexed (bl S) = .inl er) :
    Calls Tryd.prog 46 #[.string S] w (ParseP (bl S) w) := by
  have hm1 := cell_alloc_lt
  have hm2 := frozen_alloc_lt
  go_enter_defers Tryd.func46, Tryd.ntmps46
  repeat (first | go_values | go_skip | go_guarded | go_step | go_upon)
  refine (lexed_no S _ (hg.below (bal (bal (Below.refl _ _) _) _) hg.pos) hs hL).mono ?_
  rintro e w1 ⟨⟨p, rfl, hp, hl⟩, hb1⟩
  simp only [World.size_alloc] at hl
  have h2 := (hb1.block w.heap.size (by simp; omega)).trans ((RowKit.Below.heap_alloc _ _ _ (by simp)).trans (heap_alloc_new w (.cells #[.slice none 0 0] 61)))
  have h3 := (hb1.block (w.heap.size + 1) (by simp)).trans (alloc2_new w (.cells #[.slice none 0 0] 61) (.cells #[.nilIface] 26))
  obtain ⟨c2, f2, q2⟩ := cells_at h2
  obtain ⟨c3, f3, q3⟩ := cells_at h3
  have d2 : w1.cell? ⟨w.heap.size, 0, none⟩ = some (.slice none 0 0) := c2 0
  have d3 : w1.cell? ⟨w.heap.size + 1, 0, none⟩ = some .nilIface := c3 0
  have HB := Lib.hid hb1
  have HP := Lib.hid hp
  have HR := Lib.hid (show Reads (bl S) (.inl er) by unfold Reads; rw [hL])
  clear h2 h3 c2 c3 hp hb1 hL
  dsimp only
  repeat (first | go_values | go_skip | go_guarded | go_step | go_upon)
  have d4 : (w1.setCell ⟨w.heap.size + 1, 0, none⟩ (.iface 90 (.pointer (some ⟨p, 0, none⟩)))).cell? ⟨w.heap.size, 0, none⟩ = some (.slice none 0 0) := (cell_set_ne w1 _ _ _ _ (by simp)).trans d2
  go_region
  repeat (first | go_values | go_skip | go_guarded | go_step | go_upon)
  refine ⟨.tuple #[.agg #[.slice none 0 0], .iface 90 (.pointer (some ⟨p, 0, none⟩))], by simp [results, Tryd.results46, go_sem, d2, d3, cell_set_ne], ?_⟩
  have hF : ∀ (w' : World), w'.heap[p]? = w1.heap[p]? → FaultI p er.1 er.2 w' := fun w' h => h.trans HP.out
  refine ⟨?_, .inl er, HR.out, p, rfl, hF _ ?_, by omega⟩
  · refine Below.drew ?_
    refine bset (bset (bset ((bal (bal (Below.refl _ w) _) _).trans (HB.out.mono (by simp; omega))) (by simp) _) (by simp) _) (by simp) _
  · show (((w1.setCell ⟨w.heap.size + 1, 0, none⟩ _).setCell ⟨w.heap.size, 0, none⟩ _).setCell ⟨w.heap.size + 1, 0, none⟩ _).heap[p]? = _
    rw [heap_setCell_other _ _ _ _ (by simp; omega), heap_setCell_other _ _ _ _ (by simp; omega), heap_setCell_other _ _ _ _ (by simp; omega)]
end Go.Proofs.YtlohpplpnddfaaaDoor
namespace Go.Proofs.YtlohpplpnddfaaaDoor
open Go.RowKit Go.Sort

section
variable {P : Program} {ops : Array Oper} {Q Q' : Exit → Act → World → Prop} {md : Region.Mode} {I : Act → Prop}

theorem wpOp_keep {i : Nat} {K K' : Act → World → Prop} {a : Act} {w : World} (hput : ∀ a v o, ops[i]? = some o → I a → I (a.put o.dst v)) (hdef : ∀ a d, I a → I { a with defers := d :: a.defers })
    (hQ : ∀ c a w, I a → Q' (.panic c) a w → Q (.panic c) a w) (hO : LetsOut Q' → LetsOut Q) (hK : ∀ a w, I a → K a w → K' a w) (ha : I a) (h : wpOp P ops Q' i K a w) : wpOp P ops Q i K' a w := by
  unfold wpOp at *
  cases ho : ops[i]? with
  | none => rw [ho] at h; exact hK _ _ ha h
  | some o =>
    rw [ho] at h
    simp only at h ⊢
    split
    · next hw =>
      rw [if_pos hw] at h
      rcases h with h | ⟨h1, h2⟩
      case inr => exact .inr ⟨h1, hO h2⟩
      refine .inl ?_
      unfold Oper.wp at *
      generalize (execOp a.eval o).run P w = r at *
      cases r with
      | ok n w' =>
        cases n <;> simp only [Oper.upon] at h ⊢
        case value u => exact hK _ _ (hput _ _ _ ho ha) h
        case skip => exact hK _ _ (hput _ _ _ ho ha) h
        case defer d => exact hK _ _ (hput _ _ _ ho (hdef _ _ ha)) h
        case enter f args =>
          refine Calls.mono h fun e w'' he => ?_
          cases e with
          | returned u => exact hK _ _ (hput _ _ _ ho ha) he
          | panicked c => exact hQ _ _ _ ha he
          | outgrown => exact hO he
        case row row args => exact Rows.mono h fun u w'' he => hK _ _ (hput _ _ _ ho ha) he
      | halt x w' =>
        cases x <;> simp only [Oper.upon] at h ⊢
        case panic u => exact hQ _ _ _ ha h
    · next hw =>
      rw [if_neg hw] at h
      exact hK _ _ (hput _ _ _ ho ha) h
theorem wpAny_keep (hput : ∀ (i : Nat) a v o, ops[i]? = some o → I a → I (a.put o.dst v)) (hdef : ∀ a d, I a → I { a with defers := d :: a.defers })
    (hQ : ∀ c a w, I a → Q' (.panic c) a w → Q (.panic c) a w) (hN : ∀ a w, I a → Q' .normal a w → Q .normal a w) (hO : LetsOut Q' → LetsOut Q) :
    ∀ (fuel : Nat) (listed : Array Bool) (a : Act) (w : World), I a → wpAny P md ops Q' fuel listed a w → wpAny P md ops Q fuel listed a w
  | 0, _, _, _, ha, h => ⟨h.1, hN _ _ ha h.2⟩
  | fuel + 1, _, _, _, ha, h => ⟨fun h0 => hN _ _ ha (h.1 h0), fun i hi => wpOp_keep (hput i) hdef hQ hO (fun a' w' ha' h' => wpAny_keep hput hdef hQ hN hO fuel _ a' w' ha' h') ha (h.2 i hi)⟩
end
/-- Two slots hold these. -/
def Holds2 (i j : Nat) (u v : Value) (a : Act) : Prop := a.tmps[i]? = some u ∧ a.tmps[j]? = some v
theorem Holds2.put {i j : Nat} {u v : Value} {a : Act} (h : Holds2 i j u v a) {d : Option Tmp} (hi : d ≠ some i) (hj : d ≠ some j) (x : Value) : Holds2 i j u v (a.put d x) := by
  cases d with
  | none => exact h
  | some k =>
    have h1 : k ≠ i := fun e => hi (by rw [e])
    have h2 : k ≠ j := fun e => hj (by rw [e])
    refine ⟨?_, ?_⟩
    · show (a.tmps.setIfInBounds k x)[i]? = _
      rw [Array.getElem?_setIfInBounds_ne h1]; exact h.1
    · show (a.tmps.setIfInBounds k x)[j]? = _
      rw [Array.getElem?_setIfInBounds_ne h2]; exact h.2
/-- A drawn region in a function that defers: a panic's post is free of the frame, but for what is deferred; two slots that the region does not write are there still. -/
theorem wp_region_free {P : Program} {id : Nat} {ops : Array Oper} {Q : Exit → Act → World → Prop} {S : World → Prop} {a : Act} {w : World} (i j : Nat) (u v : Value) (D : List Deferred) (R : List PanicEntry → World → Prop) (hm : P.follows .mixedOrders = true) (hops : ops.all (fun o => o.dst != some i && o.dst != some j) = true)
    (ha : a.tmps[i]? = some u ∧ a.tmps[j]? = some v) (hQ : ∀ c a w, a.tmps[i]? = some u → a.tmps[j]? = some v → a.defers = D → R c w → Q (.panic c) a w) (hS : S w.drew)
    (h : S w.drew → wpAnyH P .any ops (fun e a w => match e with
      | .panic c => R c w ∧ a.defers = D
      | e => Q e a w) S ops.size (Array.replicate ops.size false) a w.drew) : (Code.region id ops true).wp P Q a w := by
  refine wp_region_any hm (wpAny_keep (I := Holds2 i j u v) (Q' := fun e a w => match e with
      | .panic c => R c w ∧ a.defers = D
      | e => Q e a w) ?_ (fun a d h => h) ?_ (fun _ _ _ h => h) ?_ _ _ _ _ ha (wpAny_of_held _ _ _ _ (h hS)))
  · intro k a v' o ho h
    have h1 := (Array.all_eq_true_iff_forall_mem.1 hops) o (Array.mem_of_getElem? ho)
    simp only [Bool.and_eq_true, bne_iff_ne, ne_eq] at h1
    exact h.put h1.1 h1.2 _
  · rintro c a w ⟨h1, h2⟩ ⟨h3, h4⟩
    exact hQ c a w h1 h2 h4 h3
  · rintro ⟨a, w, h⟩
    exact ⟨a, w, h⟩
end Go.Proofs.YtlohpplpnddfaaaDoor
