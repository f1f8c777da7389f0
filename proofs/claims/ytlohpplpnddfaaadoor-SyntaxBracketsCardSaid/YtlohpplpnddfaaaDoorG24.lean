/- Parentheses round a rule's body leave no trace: plain. | The walk of SyntaxBrackets. -/
import Derived.Test.YtlohpplpnddfaaaDoorG23
namespace Go.Proofs.YtlohpplpnddfaaaDoor
open Go.RowKit

/-- What stands ahead of the body. -/
def ruleL : List UInt8 := [114, 117, 108, 101, 32, 60, 45, 32]
def tokR : Tok := ⟨1, [114, 117, 108, 101], 0, 0⟩
def tokA : Tok := ⟨2, [], 0, 5⟩
theorem pre_rule (x : List UInt8) (g : Nat) : toksGo (ruleL ++ x) (g + 4) 0 [] = toksGo (ruleL ++ x) g 8 [tokR, tokA] := by
  have hl : (ruleL ++ x).length = 8 + x.length := by rw [List.length_append]; rfl
  have hb : ∀ j, j < 8 → byteAt (ruleL ++ x) j = byteAt ruleL j := fun j hj => byteAt_ext hj
  have hag : ∀ a, Agr ruleL (ruleL ++ x) a a 8 := fun a j hj => hb _ hj
  have e1 : tokAt (ruleL ++ x) 0 = .inr (tokR, 4) := tok_agr (s := ruleL) (a := 0) (b := 0) (n := 4) (k := tokR) (by decide) rfl ((hag 0).mono (by decide)) (fun _ => by unfold Ends; rw [hb 4 (by decide)]; rfl)
  have e2 : tokAt (ruleL ++ x) 5 = .inr (tokA, 7) := tok_agr (s := ruleL) (a := 5) (b := 5) (n := 7) (k := tokA) (by decide) rfl ((hag 5).mono (by decide)) (fun h => by cases h)
  rw [toks_on (by omega) (by rw [hb 0 (by decide)]; decide) (by rw [hb 0 (by decide)]; rfl) e1, toks_blank (by omega) (by rw [hb 4 (by decide)]; decide) (by rw [hb 4 (by decide)]; rfl), toks_on (by omega) (by rw [hb 5 (by decide)]; decide) (by rw [hb 5 (by decide)]; rfl) e2, toks_blank (by omega) (by rw [hb 7 (by decide)]; decide) (by rw [hb 7 (by decide)]; rfl)]
  rfl
theorem sign_here {t : List UInt8} {q : Nat} {b : UInt8} {acc : List Tok} {g : Nat} (hq : q < t.length) (hb : byteAt t q = b.toNat) (hs : isSign b.toNat = true) (hn : ∀ i, cont i b.toNat = false) (h35 : b.toNat ≠ 35) (hk : isBlank b.toNat = false) : toksGo t (g + 1) q acc = toksGo t g (q + 1) (acc ++ [⟨5, [b], 0, q⟩]) := by
  have h0 : nameLen t q = 0 := nameLen_is (fun j hj => by omega) (by rw [Nat.add_zero, hb]; exact hn 0)
  have e : tokAt t q = .inr (⟨5, [b], 0, q⟩, q + 1) := by
    unfold tokAt
    rw [h0, if_neg (by decide), if_neg (by decide), hb, if_pos hs]
    simp
  exact toks_on hq (by rw [hb]; exact h35) (by rw [hb]; exact hk) e
theorem ends_noEnd {T : List Tok} {e : Tok} (h : EndsT (T ++ [e])) : NoEnd T := by
  induction T with
  | nil => intro t ht; cases ht
  | cons t T ih =>
    cases hT : T ++ [e] with
    | nil => simp at hT
    | cons u m =>
      rw [List.cons_append, hT] at h
      intro t' ht'
      rcases List.mem_cons.1 ht' with rfl | ht'
      · exact h.1
      · exact ih (by rw [hT]; exact h.2) t' ht'
theorem EndsT.tail {t : Tok} {l : List Tok} (h : EndsT (t :: l)) (hl : l ≠ []) : EndsT l := by
  cases l with
  | nil => exact absurd rfl hl
  | cons u l => exact h.2
/-- The tokens of the two sources. -/
theorem brk_lexed {v : List UInt8} {l1 l2 : List Tok} (h1 : lexed (ruleL ++ (v ++ [10])) = .inr l1) (h2 : lexed (ruleL ++ [40] ++ (v ++ [10] ++ [41])) = .inr l2) :
    ∃ T T' e c e', l1 = tokR :: tokA :: (T ++ [e]) ∧ l2 = tokR :: tokA :: ⟨5, [40], 0, 8⟩ :: (T' ++ [c, e']) ∧ e.kind = 6 ∧ c.kind = 5 ∧ c.text = [41] ∧ e'.kind = 6 ∧ NoEnd T ∧ T.map bareT = T'.map bareT := by
  have hE := (toks_ends (lexed_inr h1).2).1
  have g1 := (lexed_inr h1).2
  have g2 := (lexed_inr h2).2
  have hlr : ruleL.length = 8 := rfl
  have hlr2 : (ruleL ++ [40]).length = 9 := rfl
  have hl1 : (ruleL ++ (v ++ [10])).length = 8 + (v.length + 1) := by simp [ruleL]; omega
  have hl2 : (ruleL ++ [40] ++ (v ++ [10] ++ [41])).length = 9 + (v.length + 1 + 1) := by simp [ruleL]; omega
  have hlv : (v ++ [10]).length = v.length + 1 := by simp
  have hy : byteAt (ruleL ++ [40] ++ (v ++ [10] ++ [41])) ((ruleL ++ [40]).length + (v ++ [10]).length) = 41 := by
    rw [byteAt_sh]
    unfold byteAt
    rw [List.getElem?_append_right (by omega), Nat.sub_self]
    rfl
  unfold toks at g1 g2
  obtain ⟨F1, hF1⟩ : ∃ F, 2 * (ruleL ++ (v ++ [10])).length + 2 = F + 4 := ⟨2 * (ruleL ++ (v ++ [10])).length - 2, by omega⟩
  obtain ⟨F2, hF2⟩ : ∃ F, 2 * (ruleL ++ [40] ++ (v ++ [10] ++ [41])).length + 2 = F + 1 + 4 := ⟨2 * (ruleL ++ [40] ++ (v ++ [10] ++ [41])).length - 3, by omega⟩
  rw [hF1, pre_rule] at g1
  rw [hF2, List.append_assoc, pre_rule, ← List.append_assoc] at g2
  have hb8 : byteAt (ruleL ++ [40] ++ (v ++ [10] ++ [41])) 8 = (40 : UInt8).toNat := by
    rw [byteAt_ext (by decide)]; rfl
  rw [sign_here (by omega) hb8 (by decide) (fun i => by simp [cont, isLet, isDig]) (by decide) (by decide)] at g2
  obtain ⟨T, T', g', e1, e2, e3, e4⟩ := toks_moved (p := ruleL) (p' := ruleL ++ [40]) (v := v) (y := [41]) (fun i => by rw [hy]; simp [cont, isLet, isDig]) (i := 0) (f := F1) (acc := [tokR, tokA]) (r := l1) g1 (Nat.zero_le _) F2 [tokR, tokA, ⟨5, [40], 0, 8⟩] (by omega)
  rw [Nat.add_zero, hlr2] at e3
  have e3' : toksGo (ruleL ++ [40] ++ (v ++ [10] ++ [41])) F2 (8 + 1) ([tokR, tokA] ++ [⟨5, [40], 0, 8⟩]) = _ := e3
  rw [e3'] at g2
  obtain ⟨g', rfl⟩ : ∃ k, g' = k + 2 := ⟨g' - 2, by omega⟩
  rw [sign_here (b := 41) (by omega) (by rw [← hlr2]; exact hy) (by decide) (fun i => by simp [cont, isLet, isDig]) (by decide) (by decide), toks_end (by omega)] at g2
  have g3 := Sum.inr.inj g2
  refine ⟨T, T', _, ⟨5, [41], 0, 9 + (v ++ [10]).length⟩, ⟨6, [], 0, (ruleL ++ [40] ++ (v ++ [10] ++ [41])).length⟩, by rw [e1]; rfl, by rw [← g3]; simp only [List.append_assoc, List.cons_append, List.nil_append], rfl, rfl, rfl, rfl, ?_, e2⟩
  rw [e1] at hE
  have hE2 : EndsT (tokR :: tokA :: (T ++ [⟨6, [], 0, (ruleL ++ (v ++ [10])).length⟩])) := hE
  exact ends_noEnd ((hE2.tail (by simp)).tail (by simp))
theorem rules_grow : ∀ {f : Nat} {rs : List Tok} {l g : List Ru} {r : List Tok}, pRules f rs l = some (.ok g r) → l.length ≤ g.length := by
  intro f
  induction f with
  | zero => intro rs l g r h; cases h
  | succ f ih =>
    intro rs l g r h
    rw [pRules] at h
    split at h
    · have e := Option.some.inj h; injection e with e1 e2; subst e1; exact Nat.le_refl _
    split at h
    · cases h
    split at h
    · cases h
    split at h
    · cases h
    split at h
    · cases h
    · cases h
    · have := ih h; simp at this; omega
/-- One rule: the choice behind its arrow goes to the end. -/
theorem rules_one {f : Nat} {t a : Tok} {rs r : List Tok} {x : Ru} (h : pRules f (t :: a :: rs) [] = some (.ok [x] r)) : ∃ f' n, pChoice f' 0 rs = some (.ok n r) ∧ kindT r = 6 ∧ x = ⟨t.text, n, t.pos⟩ := by
  cases f with
  | zero => cases h
  | succ f =>
    rw [pRules, if_neg (by simp), if_neg (by simp)] at h
    split at h
    · cases h
    split at h
    · cases h
    split at h
    · cases h
    · cases h
    · next n rs2 e =>
      have e' : pChoice f 0 rs = some (.ok n rs2) := e
      cases f with
      | zero => cases h
      | succ f =>
        rw [pRules] at h
        split at h
        · next hk =>
          have e2 := Option.some.inj h
          injection e2 with e3 e4
          subst e4
          simp at e3
          exact ⟨f + 1, n, e', hk.2, e3.symm⟩
        split at h
        · cases h
        split at h
        · cases h
        split at h
        · cases h
        split at h
        · cases h
        · cases h
        · have := rules_grow h; simp at this
theorem pParts_one {f d : Nat} {rs : List Tok} {n : Nd} {e : Tok} (h : pPart f d rs = some (.ok (some n) [e])) (he : e.kind = 6) : ∃ f', pParts f' d rs [] = some (.ok n [e]) := by
  refine ⟨f + 3, ?_⟩
  rw [pParts, pPart_mono h (by omega)]
  show pParts (f + 2) d [e] [n] = _
  have h2 : pPart (f + 1) d [e] = some (.ok none [e]) := by
    have hpre := (end_stop he).pre
    cases f with
    | zero => simp [pPart] at h
    | succ f => rw [pPart, if_pos hpre, (end_stop he).one]; simp only; rw [if_pos hpre]
  rw [pParts, h2]
  rfl
theorem pChoice_one {f d : Nat} {rs : List Tok} {n : Nd} {e : Tok} (h : pParts f d rs [] = some (.ok n [e])) (he : e.kind = 6) : ∃ f', pChoice f' d rs = some (.ok n [e]) := by
  refine ⟨f + 2, ?_⟩
  rw [pChoice, pParts_mono h (by omega)]
  show pAlts (f + 1) d [e] [n] = _
  rw [pAlts, if_neg (end_stop he).sl]
  rfl
/-- What is read of the two sources is the same. -/
theorem brk_same {v : List UInt8} {a b : List Ru} (h1 : Reads (ruleL ++ (v ++ [10])) (.inr a)) (h2 : Reads (ruleL ++ [40] ++ (v ++ [10] ++ [41])) (.inr b)) (hl : a.length = 1) : SameG false a b := by
  obtain ⟨x, rfl⟩ : ∃ x, a = [x] := by
    match a, hl with
    | [x], _ => exact ⟨x, rfl⟩
  unfold Reads at h1 h2
  cases e1 : lexed (ruleL ++ (v ++ [10])) with
  | inl er => rw [e1] at h1; cases h1
  | inr l1 =>
    cases e2 : lexed (ruleL ++ [40] ++ (v ++ [10] ++ [41])) with
    | inl er => rw [e2] at h2; cases h2
    | inr l2 =>
      rw [e1] at h1
      rw [e2] at h2
      obtain ⟨f1, h1⟩ := h1
      obtain ⟨f2, h2⟩ := h2
      rcases h1 with ⟨_, _, _, h1⟩ | ⟨g1, r1, h1, hg1⟩
      · cases h1
      rcases h2 with ⟨_, _, _, h2⟩ | ⟨g2, r2, h2, hg2⟩
      · cases h2
      cases hg1
      cases hg2
      obtain ⟨T, T', e, c, e', rfl, rfl, he, hc, hct, he', hT, hbt⟩ := brk_lexed e1 e2
      obtain ⟨f, n, hch, hk, rfl⟩ := rules_one h1
      have hS : StopT [c, e'] := by
        have hs : sgnOf [c, e'] = [41] := by rw [sgnOf, if_pos hc, hct]
        refine ⟨by rw [hs]; decide, by rw [hs]; rfl, by rw [hs]; rfl, by show c.kind ≠ 2; omega, fun f d => ?_⟩
        rw [pOne, if_neg (by omega), if_neg (by omega), if_neg (by omega), if_neg (by rw [hct]; simp), if_neg (by rw [hct]; simp)]
      obtain ⟨T2, rfl, hT2, g⟩ := (swap_all he hS f).choice (d' := 1) hT hbt (by decide) hch
      obtain rfl : T2 = [] := by
        cases T2 with
        | nil => rfl
        | cons u U => exact absurd hk (hT2 u (by simp))
      have hw : sgnOf [c, e'] = [41] := by rw [sgnOf, if_pos hc, hct]
      have key : ∀ {F : Nat} {r : PR Nd}, pChoice F 1 (T' ++ [c, e']) = some r → (∀ x, r = .err 2 x → False) ∧ (∀ m, r = .ok m [c, e'] → SameN false n m → SameG false [⟨tokR.text, n, tokR.pos⟩] b) := by
        intro F r hF
        have hone : pOne (F + 1) 0 (⟨5, [40], 0, 8⟩ :: (T' ++ [c, e'])) = (match some r with
            | none => none
            | some (.err c x) => some (.err c x)
            | some (.ok n rs2) => if sgnOf rs2 = [41] then some (.ok (some n) rs2.tail) else some (.err (badE rs2) (posT rs2)) : Option (PR (Option Nd))) := by
          rw [pOne, if_neg (by decide), if_neg (by decide), if_neg (by decide), if_neg (by decide), if_pos (by decide), if_neg (by decide), hF]
          cases r <;> rfl
        have hpre : preK (sgnOf (⟨5, [40], 0, 8⟩ :: (T' ++ [c, e']))) = 0 := rfl
        refine ⟨fun x hr => ?_, fun m hr hs => ?_⟩
        · subst hr
          have hp : pPart (F + 2) 0 (⟨5, [40], 0, 8⟩ :: (T' ++ [c, e'])) = some (.err 2 x) := part_err (by rw [if_pos hpre]; exact hone)
          have hr : pRules (F + 5) (tokR :: tokA :: ⟨5, [40], 0, 8⟩ :: (T' ++ [c, e'])) [] = some (.err 2 x) := by
            rw [pRules, if_neg (by simp), if_neg (by simp), if_neg (fun h => h rfl), if_neg (fun h => h rfl), show (tokR :: tokA :: (⟨5, [40], 0, 8⟩ : Tok) :: (T' ++ [c, e'])).tail.tail = ⟨5, [40], 0, 8⟩ :: (T' ++ [c, e']) from rfl, pChoice, pParts, hp]
          have := pRules_det hr h2
          cases this
        · subst hr
          simp only [if_pos hw] at hone
          have hsuf : sufK (sgnOf [e']) = 0 := (end_stop he').suf
          have hp := part_some (f := F + 1) (d := 0) (rs := ⟨5, [40], 0, 8⟩ :: (T' ++ [c, e'])) (rs2 := [e']) (n := m) (by rw [if_pos hpre]; exact hone)
          rw [hpre, hsuf, if_pos rfl] at hp
          have hp2 : pPart (F + 2) 0 (⟨5, [40], 0, 8⟩ :: (T' ++ [c, e'])) = some (.ok (some m) [e']) := hp
          obtain ⟨F3, h3⟩ := pParts_one hp2 he'
          obtain ⟨F4, h4⟩ := pChoice_one h3 he'
          have hr : pRules (F4 + 2) (tokR :: tokA :: ⟨5, [40], 0, 8⟩ :: (T' ++ [c, e'])) [] = some (.ok [⟨tokR.text, m, tokR.pos⟩] [e']) := by
            rw [pRules, if_neg (by simp), if_neg (by simp), if_neg (fun h => h rfl), if_neg (fun h => h rfl), show (tokR :: tokA :: (⟨5, [40], 0, 8⟩ : Tok) :: (T' ++ [c, e'])).tail.tail = ⟨5, [40], 0, 8⟩ :: (T' ++ [c, e']) from rfl, pChoice_mono h4 (by omega)]
            simp only [List.nil_append]
            rw [pRules, if_pos ⟨by simp, he'⟩]
            rfl
          have := pRules_det hr h2
          injection this with h5 h6
          subst h5
          exact .cons hs (fun h => by cases h) .nil
      rcases g with ⟨_, x, g⟩ | ⟨m, T2', g, hb2, hs⟩
      · exact ((key g).1 x rfl).elim
      · obtain rfl : T2' = [] := by
          cases T2' with
          | nil => rfl
          | cons u U => simp at hb2
        exact (key g).2 m rfl hs
end Go.Proofs.YtlohpplpnddfaaaDoor
namespace Go.Proofs.YtlohpplpnddfaaaDoor
open Go.RowKit Go.Sort

theorem bl_app (A B : ByteArray) : bl (A ++ B) = bl A ++ bl B := by simp [bl, ByteArray.data_append]
theorem GRep.on {w w' : World} {W : World} {gs : List Ru} {v : Value} (h : GRep w (Fresh W w) gs v) (hb : Below w.heap.size w w') : GRep w' (Fresh W w) gs v := h.mono (fun b hb' => hb.block b hb'.hi) (fun _ h => h)
/-- A grammar's length. -/
theorem GRep.len {w : World} {P : Nat → Prop} {gs : List Ru} {v : Value} (h : GRep w P gs v) : ∃ a cap, v = .slice a gs.length cap := by
  rcases h with ⟨rfl, rfl⟩ | ⟨b, cap, cur, cs, rfl, _⟩
  · exact ⟨none, 0, rfl⟩
  · exact ⟨_, _, rfl⟩
theorem ieq' (a k : Nat) : ((a : Int) == (k : Int)) = decide (a = k) := by
  by_cases h : a = k
  · subst h; simp
  · rw [decide_eq_false h, beq_eq_false_iff_ne]; omega
theorem ine' (a k : Nat) : ((a : Int) != (k : Int)) = !decide (a = k) := by rw [bne, ieq']
set_option maxRecDepth 100000 in
set_option maxHeartbeats 6400000 in
theorem brk_any (S : ByteArray) (w : World) (hg : Laid w) (hs : S.size ≤ 140737488351232) : Calls Tryd.prog 14 #[.string S] w (Ans (.bool true) w) := by
  have HL := Lib.hid hg
  have HL1 := Lib.hid (fun (W : World) (h : Below w.heap.size w W) => hg.below h hg.pos)
  have hm1 := cell_alloc_lt
  clear hg
  by_cases hbig : 8192 < S.size
  · have d1 : decide ((8192 : Int) < S.size) = true := by simp; omega
    go_enter Tryd.func14, Tryd.ntmps14
    repeat (first | go_values | go_skip | go_guarded | go_step | go_upon)
    refine (small4_any _ HL.out).mono ?_
    rintro e w1 ⟨rfl, hb1⟩
    obtain ⟨hc1, hf1⟩ := bcell hb1
    have hz1 := hb1.size
    try simp at hz1
    dsimp only
    repeat (first | go_values | go_skip | go_guarded | go_step | go_upon)
    go_ret
    exact ⟨rfl, (by repeat (first | exact Below.refl _ _ | assumption | refine bal ?_ _ | refine bdr ?_ | refine bdrn ?_ _ | (refine bset ?_ (by first | exact Nat.le_refl _ | (simp; done) | (simp; omega) | omega) _) | refine bstep ?_ (by assumption)))⟩
  · have d1 : decide ((8192 : Int) < S.size) = false := by simp; omega
    have h8 : S.size ≤ 8192 := by omega
    have hz1 : ((⟨#[114, 117, 108, 101, 32, 60, 45, 32]⟩ : ByteArray) ++ S ++ ⟨#[10]⟩).size ≤ 140737488355328 := by
      rw [← bl_length, bl_app, bl_app, List.length_append, List.length_append, bl_length S, show bl ⟨#[114, 117, 108, 101, 32, 60, 45, 32]⟩ = ruleL from rfl, show bl ⟨#[10]⟩ = [10] from rfl, show ruleL.length = 8 from rfl]
      simp
      omega
    have hz2 : ((⟨#[114, 117, 108, 101, 32, 60, 45, 32, 40]⟩ : ByteArray) ++ S ++ ⟨#[10, 41]⟩).size ≤ 140737488355328 := by
      rw [← bl_length, bl_app, bl_app, List.length_append, List.length_append, bl_length S, show bl ⟨#[114, 117, 108, 101, 32, 60, 45, 32, 40]⟩ = ruleL ++ [40] from rfl, show bl ⟨#[10, 41]⟩ = [10, 41] from rfl, show (ruleL ++ [(40 : UInt8)]).length = 9 from rfl]
      simp
      omega
    have HZ1 := Lib.hid hz1
    have HZ2 := Lib.hid hz2
    have E1 := Lib.hid (show bl ((⟨#[114, 117, 108, 101, 32, 60, 45, 32]⟩ : ByteArray) ++ S ++ ⟨#[10]⟩) = ruleL ++ (bl S ++ [10]) by rw [bl_app, bl_app, List.append_assoc]; rfl)
    have E2 := Lib.hid (show bl ((⟨#[114, 117, 108, 101, 32, 60, 45, 32, 40]⟩ : ByteArray) ++ S ++ ⟨#[10, 41]⟩) = ruleL ++ [40] ++ (bl S ++ [10] ++ [41]) by rw [bl_app, bl_app, show bl ⟨#[114, 117, 108, 101, 32, 60, 45, 32, 40]⟩ = ruleL ++ [40] from rfl, show bl ⟨#[10, 41]⟩ = [10] ++ [41] from rfl]; simp only [List.append_assoc])
    clear hz1 hz2 hbig
    go_enter Tryd.func14, Tryd.ntmps14
    repeat (first | go_values | go_skip | go_guarded | go_step | go_upon)
    refine (small4_any _ HL.out).mono ?_
    rintro e w1 ⟨rfl, hb1⟩
    obtain ⟨hc1, hf1⟩ := bcell hb1
    have hz1 := hb1.size
    try simp at hz1
    dsimp only
    repeat (first | go_values | go_skip | go_guarded | go_step | go_upon)
    refine (syn_any _ _ (HL1.out _ (by repeat (first | exact Below.refl _ _ | assumption | refine bal ?_ _ | refine bdr ?_ | refine bdrn ?_ _ | (refine bset ?_ (by first | exact Nat.le_refl _ | (simp; done) | (simp; omega) | omega) _) | refine bstep ?_ (by assumption)))) HZ1.out).mono ?_
    rintro e w2 ⟨hb2, r1, hr1, hp1⟩
    obtain ⟨hc2, hf2⟩ := bcell hb2
    have hz2 := hb2.size
    rw [E1.out] at hr1
    have HR1 := Lib.hid hr1
    clear hr1
    cases r1 with
    | inl er =>
      obtain ⟨c, x⟩ := er
      obtain ⟨p, rfl, _, _⟩ := hp1
      dsimp only
      repeat (first | go_values | go_skip | go_guarded | go_step | go_upon)
      refine (syn_any _ _ (HL1.out _ (by repeat (first | exact Below.refl _ _ | assumption | refine bal ?_ _ | refine bdr ?_ | refine bdrn ?_ _ | (refine bset ?_ (by first | exact Nat.le_refl _ | (simp; done) | (simp; omega) | omega) _) | refine bstep ?_ (by assumption)))) HZ2.out).mono ?_
      rintro e w3 ⟨hb3, r2, hr2, hp2⟩
      obtain ⟨hc3, hf3⟩ := bcell hb3
      have hz3 := hb3.size
      clear hr2
      cases r2 with
      | inl er =>
        obtain ⟨c2, x2⟩ := er
        obtain ⟨p2, rfl, _, _⟩ := hp2
        dsimp only
        repeat (first | go_values | go_skip | go_guarded | go_step | go_upon)
        go_ret
        exact ⟨rfl, (by repeat (first | exact Below.refl _ _ | assumption | refine bal ?_ _ | refine bdr ?_ | refine bdrn ?_ _ | (refine bset ?_ (by first | exact Nat.le_refl _ | (simp; done) | (simp; omega) | omega) _) | refine bstep ?_ (by assumption)))⟩
      | inr b =>
        obtain ⟨v2, rfl, hG2⟩ := hp2
        obtain ⟨vb, bcap, rfl⟩ := hG2.len
        clear hG2
        dsimp only
        repeat (first | go_values | go_skip | go_guarded | go_step | go_upon)
        go_ret
        exact ⟨rfl, (by repeat (first | exact Below.refl _ _ | assumption | refine bal ?_ _ | refine bdr ?_ | refine bdrn ?_ _ | (refine bset ?_ (by first | exact Nat.le_refl _ | (simp; done) | (simp; omega) | omega) _) | refine bstep ?_ (by assumption)))⟩
    | inr a =>
      obtain ⟨v, rfl, hG⟩ := hp1
      obtain ⟨va, vcap, rfl⟩ := hG.len
      have HG := Lib.hid hG
      clear hG
      dsimp only
      repeat (first | go_values | go_skip | go_guarded | go_step | go_upon)
      refine (syn_any _ _ (HL1.out _ (by repeat (first | exact Below.refl _ _ | assumption | refine bal ?_ _ | refine bdr ?_ | refine bdrn ?_ _ | (refine bset ?_ (by first | exact Nat.le_refl _ | (simp; done) | (simp; omega) | omega) _) | refine bstep ?_ (by assumption)))) HZ2.out).mono ?_
      rintro e w3 ⟨hb3, r2, hr2, hp2⟩
      obtain ⟨hc3, hf3⟩ := bcell hb3
      have hz3 := hb3.size
      simp only [World.size_alloc] at hz3
      rw [E2.out] at hr2
      have HR2 := Lib.hid hr2
      clear hr2
      cases r2 with
      | inl er =>
        obtain ⟨c2, x2⟩ := er
        obtain ⟨p2, rfl, _, _⟩ := hp2
        dsimp only
        repeat (first | go_values | go_skip | go_guarded | go_step | go_upon)
        go_ret
        exact ⟨rfl, (by repeat (first | exact Below.refl _ _ | assumption | refine bal ?_ _ | refine bdr ?_ | refine bdrn ?_ _ | (refine bset ?_ (by first | exact Nat.le_refl _ | (simp; done) | (simp; omega) | omega) _) | refine bstep ?_ (by assumption)))⟩
      | inr b =>
        obtain ⟨v2, rfl, hG2⟩ := hp2
        obtain ⟨vb, bcap, rfl⟩ := hG2.len
        have HG2 := Lib.hid hG2
        clear hG2
        have y4 : w3.cell? ⟨w2.heap.size, 0, none⟩ = some (.slice va a.length vcap) := (hc3 _ _ (by simp)).trans (by simp)
        have q4 : w2.heap.size < w3.heap.size := by omega
        by_cases h1 : a.length = 1
        · have k1 : ((a.length : Int) != 1) = false := (ine' a.length 1).trans (by rw [decide_eq_true h1]; rfl)
          have HS := Lib.hid (brk_same HR1.out HR2.out h1)
          have hbb : Below w2.heap.size w2 w3 := (bal (Below.refl _ w2) _).trans (hb3.mono (by simp))
          have HSC := Lib.hid (same_G false (w3.alloc (.cells #[.slice vb b.length bcap] 61)) HS.out ((HG.out.on hbb).mono (w' := w3.alloc (.cells #[.slice vb b.length bcap] 61)) (fun b' hb' => RowKit.Below.heap_alloc _ _ _ (by have := hb'.hi; omega)) (fun _ h => h)) (HG2.out.mono (w' := w3.alloc (.cells #[.slice vb b.length bcap] 61)) (fun b' hb' => RowKit.Below.heap_alloc _ _ _ hb'.hi) (fun _ h => h)) (fun b' hb' => by have := hb'.hi; simp; omega) (fun b' hb' => by have := hb'.hi; simp; omega))
          clear h1 hbb
          dsimp only
          repeat (first | go_values | go_skip | go_guarded | go_step | go_upon)
          refine HSC.out.mono ?_
          rintro e w4 ⟨rfl, hb4⟩
          dsimp only
          repeat (first | go_values | go_skip | go_guarded | go_step | go_upon)
          go_ret
          exact ⟨rfl, (by repeat (first | exact Below.refl _ _ | assumption | refine bal ?_ _ | refine bdr ?_ | refine bdrn ?_ _ | (refine bset ?_ (by first | exact Nat.le_refl _ | (simp; done) | (simp; omega) | omega) _) | refine bstep ?_ (by assumption)))⟩
        · have k1 : ((a.length : Int) != 1) = true := (ine' a.length 1).trans (by rw [decide_eq_false h1]; rfl)
          clear h1
          dsimp only
          repeat (first | go_values | go_skip | go_guarded | go_step | go_upon)
          go_ret
          exact ⟨rfl, (by repeat (first | exact Below.refl _ _ | assumption | refine bal ?_ _ | refine bdr ?_ | refine bdrn ?_ _ | (refine bset ?_ (by first | exact Nat.le_refl _ | (simp; done) | (simp; omega) | omega) _) | refine bstep ?_ (by assumption)))⟩
end Go.Proofs.YtlohpplpnddfaaaDoor
