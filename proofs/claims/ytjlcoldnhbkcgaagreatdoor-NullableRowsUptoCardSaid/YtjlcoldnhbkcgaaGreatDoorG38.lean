/- How large a tree is that was read: plain. | What is read is printed, if it is not too long and no part of it is empty; what is printed is read, and printed the same: plain. | Two grammars compared as they lie anywhere: where they are the same, with or without their places. | What the door's rows have in common: the variable's cell out of 'laid', a world that meets it (after the guide's worked text ToyasProofs). | The walk of the syntax laws' small case. -/
import Derived.Test.YtjlcoldnhbkcgaaGreatDoorG37
import Derived.Test.YtjlcoldnhbkcgaaGreatDoorG33
import Derived.Test.YtjlcoldnhbkcgaaGreatDoorG36
import Derived.Test.YtjlcoldnhbkcgaaGreatDoorG34
import Derived.Test.YtjlcoldnhbkcgaaGreatDoorRows
import Derived.Test.YtjlcoldnhbkcgaaGreatDoorG13
import Derived.ChangeSame
import Derived.ChangeVars
import Derived.JoinedOf
import Derived.RowKit
import Derived.RowKitTokens
import Derived.LaidLaws
import Derived.LaidHandle
import Derived.Stop.Joined
namespace Go.Proofs.YtjlcoldnhbkcgaaGreatDoor
open Go.RowKit

theorem toksGo_most {s : List UInt8} : ∀ {f a : Nat} {l r : List Tok}, toksGo s f a l = .inr r → a ≤ s.length → r.length + a ≤ l.length + s.length + 1 := by
  intro f
  induction f with
  | zero => intro a l r h; cases h
  | succ f ih =>
    intro a l r h ha
    rw [toksGo] at h
    split at h
    · have e := Sum.inr.inj h
      subst e
      simp
      omega
    split at h
    · next h1 h35 =>
      have b := noteEnd_bd (s := s) (a := a) (by omega) (by omega)
      have := ih h b.2
      omega
    split at h
    · have := ih h (by omega)
      omega
    split at h
    · cases h
    · next h1 _ _ t n e =>
      have b := tokAt_bd (by omega) e
      have := ih h b.2.1
      simp at this
      omega
theorem lexed_most {s : List UInt8} {l : List Tok} (h : lexed s = .inr l) : l.length ≤ s.length + 1 ∧ s.length ≤ 8192 := by
  obtain ⟨h1, h2⟩ := lexed_inr h
  have := toksGo_most h2 (by omega)
  simp at this
  omega
/-- How many letters tokens hold, and how many they are. -/
def tw : List Tok → Nat
  | [] => 0
  | t :: l => t.text.length + 1 + tw l
theorem tw_tail (ts : List Tok) : tw ts.tail ≤ tw ts := by
  cases ts with
  | nil => exact Nat.le_refl _
  | cons t l => show tw l ≤ _; rw [tw]; omega
theorem tw_sign {ts : List Tok} (h : sgnOf ts ≠ []) : tw ts.tail + 1 ≤ tw ts := by
  cases ts with
  | nil => exact absurd rfl h
  | cons t l => show tw l + 1 ≤ _; rw [tw]; omega
theorem tw_le {ts : List Tok} (h : Toks ts) : tw ts ≤ 256 * ts.length := by
  induction ts with
  | nil => exact Nat.le_refl _
  | cons t l ih =>
    have h1 := (h t List.mem_cons_self).len
    have h2 := ih (fun u hu => h u (List.mem_cons_of_mem _ hu))
    rw [tw, List.length_cons]
    omega
theorem pre_ne {s : List UInt8} (h : preK s ≠ 0) : s ≠ [] := fun e => h (by rw [e]; rfl)
theorem suf_ne {s : List UInt8} (h : sufK s ≠ 0) : s ≠ [] := fun e => h (by rw [e]; rfl)
theorem bulk_join (k : Nat) (l : List Nd) : (joinN k l).tr.bulk ≤ Tr.bulks (Nd.trs l) + 1 := by
  match l with
  | [] => rw [joinN, Nd.tr, Nd.trs, Tr.bulk]; simp [Tr.bulks]
  | [x] => rw [joinN, Nd.trs, Nd.trs, Tr.bulks, Tr.bulks]; omega
  | x :: y :: l => rw [joinN, Nd.tr, Tr.bulk]; simp; omega
theorem trs_snoc (l : List Nd) (n : Nd) : Tr.bulks (Nd.trs (l ++ [n])) = Tr.bulks (Nd.trs l) + n.tr.bulk := by
  induction l with
  | nil => simp [Nd.trs, Tr.bulks]
  | cons x l ih => rw [List.cons_append, Nd.trs, Nd.trs, Tr.bulks, Tr.bulks, ih]; omega
theorem bulk_leaf (k : Nat) (t : List UInt8) (c : BitVec 256) (p : Nat) : (Nd.mk k t c [] p).tr.bulk = t.length + 1 := by rw [Nd.tr, Nd.trs, Tr.bulk, Tr.bulks]
theorem bulk_sign (k p : Nat) (n : Nd) : (Nd.mk k [] 0 [n] p).tr.bulk = n.tr.bulk + 1 := by rw [Nd.tr, Nd.trs, Nd.trs, Tr.bulk, Tr.bulks, Tr.bulks]; simp; omega
structure Bulk (f : Nat) : Prop where
  choice : ∀ {d : Nat} {ts r : List Tok} {n : Nd}, pChoice f d ts = some (.ok n r) → n.tr.bulk + 4 * tw r ≤ 4 * tw ts + 2
  alts : ∀ {d : Nat} {ts r : List Tok} {n : Nd} {l : List Nd}, pAlts f d ts l = some (.ok n r) → n.tr.bulk + 4 * tw r ≤ 4 * tw ts + Tr.bulks (Nd.trs l) + 1
  parts : ∀ {d : Nat} {ts r : List Tok} {n : Nd} {l : List Nd}, pParts f d ts l = some (.ok n r) → n.tr.bulk + 4 * tw r ≤ 4 * tw ts + Tr.bulks (Nd.trs l) + 1
  part : ∀ {d : Nat} {ts r : List Tok} {n : Option Nd}, pPart f d ts = some (.ok n r) → tw r ≤ tw ts ∧ ∀ m, n = some m → m.tr.bulk + 4 * tw r ≤ 4 * tw ts
  one : ∀ {d : Nat} {ts r : List Tok} {n : Option Nd}, pOne f d ts = some (.ok n r) → tw r ≤ tw ts ∧ ∀ m, n = some m → m.tr.bulk + 4 * tw r ≤ 4 * tw ts
theorem bulk_all : ∀ f, Bulk f := by
  intro f
  induction f with
  | zero => exact ⟨fun h => by simp [pChoice] at h, fun h => by simp [pAlts] at h, fun h => by simp [pParts] at h, fun h => by simp [pPart] at h, fun h => by simp [pOne] at h⟩
  | succ f ih =>
    refine ⟨fun {d ts r n} h => ?_, fun {d ts r n l} h => ?_, fun {d ts r n l} h => ?_, fun {d ts r n} h => ?_, fun {d ts r n} h => ?_⟩
    · rw [pChoice] at h
      cases e1 : pParts f d ts [] with
      | none => rw [e1] at h; cases h
      | some y =>
        rw [e1] at h
        cases y with
        | err c x => cases h
        | ok m r1 =>
          have k1 := ih.parts e1
          have k2 := ih.alts h
          rw [Nd.trs, Nd.trs, Tr.bulks, Tr.bulks] at k2
          rw [Nd.trs, Tr.bulks] at k1
          omega
    · rw [pAlts] at h
      split at h
      · next h47 =>
        have hw := tw_sign (ts := ts) (by rw [h47]; simp)
        cases e1 : pParts f d ts.tail [] with
        | none => rw [e1] at h; cases h
        | some y =>
          rw [e1] at h
          cases y with
          | err c x => cases h
          | ok m r1 =>
            have k1 := ih.parts e1
            have k2 := ih.alts h
            rw [trs_snoc] at k2
            rw [Nd.trs, Tr.bulks] at k1
            omega
      · have e2 := Option.some.inj h
        injection e2 with e3 e4
        subst e3 e4
        have := bulk_join 7 l
        omega
    · rw [pParts] at h
      cases e1 : pPart f d ts with
      | none => rw [e1] at h; cases h
      | some y =>
        rw [e1] at h
        cases y with
        | err c x => cases h
        | ok m r1 =>
          obtain ⟨k1, k2⟩ := ih.part e1
          cases m with
          | some m =>
            have k3 := k2 m rfl
            have k4 := ih.parts h
            rw [trs_snoc] at k4
            omega
          | none =>
            simp only at h
            split at h
            · have e2 := Option.some.inj h
              injection e2 with e3 e4
              subst e3 e4
              rw [bulk_leaf]
              simp
              omega
            · have e2 := Option.some.inj h
              injection e2 with e3 e4
              subst e3 e4
              have := bulk_join 6 l
              omega
    · rw [pPart] at h
      have ht2 : tw (if preK (sgnOf ts) = 0 then ts else ts.tail) + (if preK (sgnOf ts) = 0 then 0 else 1) ≤ tw ts := by
        split
        · omega
        · next hs => exact tw_sign (pre_ne hs)
      cases e1 : pOne f d (if preK (sgnOf ts) = 0 then ts else ts.tail) with
      | none => rw [e1] at h; cases h
      | some y =>
        rw [e1] at h
        cases y with
        | err c x => cases h
        | ok m r1 =>
          obtain ⟨k1, k2⟩ := ih.one e1
          cases m with
          | none =>
            simp only at h
            split at h
            · have e2 := Option.some.inj h
              injection e2 with e3 e4
              subst e3 e4
              exact ⟨by omega, fun m e => (by cases e)⟩
            · cases h
          | some m =>
            have k3 := k2 m rfl
            have e2 := Option.some.inj h
            injection e2 with e3 e4
            subst e3 e4
            have hr : tw (if sufK (sgnOf r1) = 0 then r1 else r1.tail) + (if sufK (sgnOf r1) = 0 then 0 else 1) ≤ tw r1 := by
              split
              · omega
              · next hs => exact tw_sign (suf_ne hs)
            refine ⟨by omega, fun m2 e => ?_⟩
            have e := Option.some.inj e
            subst e
            obtain ⟨n1, hn1⟩ : ∃ n1, n1 = (if sufK (sgnOf r1) = 0 then m else .mk (sufK (sgnOf r1)) [] 0 [m] m.pos) := ⟨_, rfl⟩
            rw [← hn1]
            have q1 : n1.tr.bulk ≤ m.tr.bulk + (if sufK (sgnOf r1) = 0 then 0 else 1) := by
              rw [hn1]
              split
              · omega
              · rw [bulk_sign]; omega
            have q2 : (if preK (sgnOf ts) = 0 then n1 else Nd.mk (preK (sgnOf ts)) [] 0 [n1] (posT ts)).tr.bulk ≤ n1.tr.bulk + (if preK (sgnOf ts) = 0 then 0 else 1) := by
              split
              · omega
              · rw [bulk_sign]; omega
            omega
    · cases ts with
      | nil => rw [pOne] at h; cases h
      | cons t rs =>
        have leaf : ∀ (k : Nat) (c : BitVec 256) (p : Nat) (x : List UInt8), x.length ≤ t.text.length → tw rs ≤ tw (t :: rs) ∧ ∀ m : Nd, some (Nd.mk k x c [] p) = some m → m.tr.bulk + 4 * tw rs ≤ 4 * tw (t :: rs) := by
          intro k c p x hx
          rw [tw]
          refine ⟨by omega, fun m e => ?_⟩
          have e := Option.some.inj e
          subst e
          rw [bulk_leaf]
          omega
        rw [pOne] at h
        split at h
        · split at h
          · have e2 := Option.some.inj h
            injection e2 with e3 e4
            subst e3 e4
            exact ⟨Nat.le_refl _, fun m e => (by cases e)⟩
          · have e2 := Option.some.inj h
            injection e2 with e3 e4
            subst e3 e4
            exact leaf _ _ _ _ (Nat.le_refl _)
        split at h
        · have e2 := Option.some.inj h
          injection e2 with e3 e4
          subst e3 e4
          exact leaf _ _ _ _ (Nat.le_refl _)
        split at h
        · have e2 := Option.some.inj h
          injection e2 with e3 e4
          subst e3 e4
          exact leaf _ _ _ _ (Nat.le_refl _)
        split at h
        · have e2 := Option.some.inj h
          injection e2 with e3 e4
          subst e3 e4
          exact leaf _ _ _ _ (by simp)
        split at h
        · split at h
          · cases h
          cases e1 : pChoice f (d + 1) rs with
          | none => rw [e1] at h; cases h
          | some y =>
            rw [e1] at h
            cases y with
            | err c x => cases h
            | ok m r1 =>
              have g1 := ih.choice e1
              have g2 := tw_tail r1
              simp only at h
              split at h
              · have e2 := Option.some.inj h
                injection e2 with e3 e4
                subst e3 e4
                rw [tw]
                refine ⟨by omega, fun m2 e => ?_⟩
                have e := Option.some.inj e
                subst e
                omega
              · cases h
        · have e2 := Option.some.inj h
          injection e2 with e3 e4
          subst e3 e4
          exact ⟨Nat.le_refl _, fun m e => (by cases e)⟩
theorem rules_bulk : ∀ (f : Nat) {ts r : List Tok} {acc g : List Ru}, pRules f ts acc = some (.ok g r) → Rr.bulks (g.map Ru.rr) ≤ Rr.bulks (acc.map Ru.rr) + 4 * tw ts := by
  intro f
  induction f with
  | zero => intro ts r acc g h; cases h
  | succ f ih =>
    intro ts r acc g h
    rw [pRules] at h
    split at h
    · have e2 := Option.some.inj h
      injection e2 with e3 _
      subst e3
      omega
    split at h
    · cases h
    split at h
    · cases h
    next k1 =>
    split at h
    · cases h
    next k2 =>
    cases e1 : pChoice f 0 ts.tail.tail with
    | none => rw [e1] at h; cases h
    | some y =>
      rw [e1] at h
      cases y with
      | err c x => cases h
      | ok n r1 =>
        have g1 := (bulk_all f).choice e1
        have g2 := ih h
        rw [List.map_append, List.map_singleton, Rr.bulks_snoc] at g2
        have g3 : (Ru.rr ⟨nameT ts, n, posT ts⟩).bulk = (nameT ts).length + n.tr.bulk := rfl
        rw [g3] at g2
        have g4 : (nameT ts).length + 1 + tw ts.tail ≤ tw ts := by
          cases ts with
          | nil => exact absurd (fun e => by cases e) k1
          | cons t rs => exact Nat.le_refl _
        have g5 : tw ts.tail.tail + 1 ≤ tw ts.tail := by
          cases hx : ts.tail with
          | nil => rw [hx] at k2; exact absurd (fun e => by cases e) k2
          | cons t rs => show tw rs + 1 ≤ _; rw [tw]; omega
        omega
theorem reads_bulk {s : List UInt8} {g : List Ru} (h : Reads s (.inr g)) : Rr.bulks (g.map Ru.rr) ≤ 1000000000 := by
  unfold Reads at h
  cases e1 : lexed s with
  | inl er => rw [e1] at h; cases h
  | inr l =>
    rw [e1] at h
    obtain ⟨f, h⟩ := h
    rcases h with ⟨_, _, _, e⟩ | ⟨g', r, q, e⟩
    · cases e
    · injection e with e
      subst e
      have h1 := rules_bulk f q
      have h2 := tw_le (lexed_ok2 e1)
      have h3 := lexed_most e1
      simp only [List.map_nil, Rr.bulks] at h1
      omega
end Go.Proofs.YtjlcoldnhbkcgaaGreatDoor
namespace Go.Proofs.YtjlcoldnhbkcgaaGreatDoor
open Go.RowKit

theorem drules_list {e : Tok} (he : e.kind = 6) : ∀ (g : List Rr), (∀ r ∈ g, OkR r ∧ dpT r.body ≤ 24) → ∀ ts, ts.map core = cos (pcG g) → ∀ acc : List Ru, 0 < acc.length + g.length → acc.length + g.length ≤ 64 →
    ∃ f hs, pRules f (ts ++ [e]) acc = some (.ok hs [e]) := by
  intro g
  induction g with
  | nil =>
    intro _ ts ht acc h0 _
    obtain rfl : ts = [] := List.map_eq_nil_iff.1 ht
    simp only [List.length_nil, Nat.add_zero] at h0
    exact ⟨1, acc, by rw [List.nil_append, pRules, if_pos ⟨by omega, he⟩]⟩
  | cons r g ih =>
    intro hr ts ht acc _ h64
    obtain ⟨hok, hdp⟩ := hr r List.mem_cons_self
    have ht2 : ts.map core = (1, r.name, 0) :: (2, [], 0) :: (cos (pcT r.body) ++ cos (pcG g)) := by
      rw [ht]
      show cos (.nm r.name :: .sp :: .ar :: .sp :: ((pcT r.body ++ [.nl]) ++ pcG g)) = _
      rw [List.append_assoc]
      show (1, r.name, 0) :: (2, [], 0) :: cos (pcT r.body ++ (.nl :: pcG g)) = _
      rw [cos_app]
      rfl
    obtain ⟨a, t0, rfl, a1, a2, _, ht3⟩ := core_cons ht2
    obtain ⟨b, t3, rfl, b1, _, _, ht4⟩ := core_cons ht3
    obtain ⟨t1, t2, rfl, h1, h2⟩ := core_app ht4
    dsimp only at a1 a2 b1
    have hg := fun m hm => hr m (List.mem_cons_of_mem _ hm)
    obtain ⟨⟨g1, g2⟩, _⟩ := rules_list he g (fun m hm => (hg m hm).1) t2 h2
    simp only [List.length_cons] at h64
    have ek : kindT (a :: b :: (t1 ++ t2) ++ [e]) = 1 := a1
    have ek2 : kindT (a :: b :: (t1 ++ t2) ++ [e]).tail = 2 := b1
    have et : (a :: b :: (t1 ++ t2) ++ [e]).tail.tail = t1 ++ (t2 ++ [e]) := by simp
    obtain ⟨f, m, q1, _⟩ := (dmain_tree hok.2).cho 0 t1 (t2 ++ [e]) (by omega) h1 g1 g2
    obtain ⟨f2, hs, q3⟩ := ih hg t2 h2 (acc ++ [⟨r.name, m, a.pos⟩]) (by simp; omega) (by simp; omega)
    refine ⟨f + f2 + 1, hs, ?_⟩
    rw [pRules, if_neg (by rw [ek]; omega), if_neg (by omega), if_neg (fun h => h ek), if_neg (fun h => h ek2), et, pChoice_mono q1 (by omega)]
    show pRules (f + f2) (t2 ++ [e]) (acc ++ [⟨a.text, m, a.pos⟩]) = _
    rw [a2, pRules_mono q3 (by omega)]
/-- Where the text is not too deep, it is read. -/
theorem gram_deep {g : List Rr} (h : okG g = true) (hd : ∀ r ∈ g, dpT r.body ≤ 24) (h8 : (txG g).length ≤ 8192) : ∃ hs, Reads (txG g) (.inr hs) := by
  obtain ⟨k1, k2, k3⟩ := okG_all h
  rw [← txs_gram] at h8 ⊢
  obtain ⟨r, h1, h2⟩ := good_lexed (good_gram g k1) h8
  obtain ⟨f, hs, q⟩ := drules_list (e := ⟨6, [], 0, (txs (pcG g)).length⟩) rfl g (fun r hr => ⟨k1 r hr, hd r hr⟩) r h2 [] (by simpa using k2) (by simpa using k3)
  refine ⟨hs, ?_⟩
  unfold Reads
  rw [h1]
  exact ⟨f, .inr ⟨_, _, q, rfl⟩⟩
theorem SameT.kind {b : Bool} {n m : Tr} (h : SameT b n m) : n.kind = m.kind := by cases h; rfl
mutual
theorem SameT.pc {b : Bool} {n m : Tr} : SameT b n m → pcT n = pcT m
  | .mk _ h => by
    have k := SameU.pc h
    rw [pcT, pcT, k, k, k, k]
theorem SameU.pc {b : Bool} {l m : List Tr} : SameU b l m → ∀ (sep : List Pc) (r : Nat) (first : Bool), pcR sep r first l = pcR sep r first m
  | .nil, _, _, _ => rfl
  | .cons h1 h2, sep, r, first => by
    have k := SameU.pc h2
    have k1 := SameT.pc h1
    rw [pcR_cons, pcR_cons, k, pcQ, pcQ, k1, h1.kind]
end
theorem SameR.tx {b : Bool} {l m : List Rr} (h : SameR b l m) : txG l = txG m := by
  induction h with
  | nil => rfl
  | cons h1 _ _ ih =>
    rw [txG, txG, ih]
    simp only [txU, txT, h1.pc]
theorem rules_len : ∀ (f : Nat) {ts r : List Tok} {acc g : List Ru}, acc.length ≤ 64 → pRules f ts acc = some (.ok g r) → 0 < g.length ∧ g.length ≤ 64 := by
  intro f
  induction f with
  | zero => intro ts r acc g _ h; cases h
  | succ f ih =>
    intro ts r acc g ha h
    rw [pRules] at h
    split at h
    · next h0 =>
      have e2 := Option.some.inj h
      injection e2 with e3 _
      subst e3
      exact ⟨by omega, ha⟩
    split at h
    · cases h
    next h64 =>
    split at h
    · cases h
    next k1 =>
    split at h
    · cases h
    cases e1 : pChoice f 0 ts.tail.tail with
    | none => rw [e1] at h; cases h
    | some y =>
      rw [e1] at h
      cases y with
      | err c x => cases h
      | ok n r1 =>
        refine ih ?_ h
        rw [List.length_append, List.length_singleton]
        omega
theorem reads_ok {s : List UInt8} {g : List Ru} (h : Reads s (.inr g)) : okG (g.map Ru.rr) = true := by
  have h1 := reads_deep h
  have h2 : 0 < g.length ∧ g.length ≤ 64 := by
    unfold Reads at h
    cases e1 : lexed s with
    | inl er => rw [e1] at h; cases h
    | inr l =>
      rw [e1] at h
      obtain ⟨f, h⟩ := h
      rcases h with ⟨_, _, _, e⟩ | ⟨g', r, q, e⟩
      · cases e
      · injection e with e
        subst e
        exact rules_len f (by simp) q
  rw [okG, Bool.and_eq_true, Bool.and_eq_true]
  refine ⟨⟨?_, ?_⟩, ?_⟩
  · rw [List.length_map]; exact decide_eq_true h2.1
  · rw [List.length_map]; exact decide_eq_true h2.2
  · rw [List.all_eq_true]
    intro r hr
    obtain ⟨u, hu, rfl⟩ := List.mem_map.1 hr
    exact ok_okU (h1 u hu).1
def nestE (g : List Rr) : Bool := g.any fun r => hasE r.body
/-- What Print comes to, of what was read. -/
theorem form_res {s : List UInt8} {g : List Ru} (h : Reads s (.inr g)) {x : Nat ⊕ List UInt8} (hx : PrRes (g.map Ru.rr) x) : x = .inl 2 ∨ (x = .inl 20 ∧ nestE (g.map Ru.rr) = true) ∨ (x = .inr (txG (g.map Ru.rr)) ∧ (txG (g.map Ru.rr)).length ≤ 8192 ∧ ∃ hs, Reads (txG (g.map Ru.rr)) (.inr hs) ∧ SameR false (g.map Ru.rr) (hs.map Ru.rr)) := by
  have hok := reads_ok h
  have hx2 := hx
  rcases hx with ⟨e, _⟩ | ⟨_, _, e⟩ | ⟨_, h8, ⟨er, h3, e⟩ | ⟨hs, h3, e⟩⟩
  · rw [hok] at e; cases e
  · exact .inl e
  · refine .inr (.inl ⟨e, ?_⟩)
    cases hn : nestE (g.map Ru.rr) with
    | true => rfl
    | false =>
      have hd : ∀ r ∈ g.map Ru.rr, dpT r.body ≤ 24 := by
        intro r hr
        have hne : hasE r.body = false := by
          have := List.any_eq_false.1 hn r hr
          simpa using this
        obtain ⟨u, hu, rfl⟩ := List.mem_map.1 hr
        exact (reads_deep h u hu).2 hne
      obtain ⟨hs, h4⟩ := gram_deep hok hd h8
      cases h3.det h4
  · subst e
    obtain ⟨_, h8, q⟩ := res_reads hx2
    exact .inr (.inr ⟨rfl, h8, q⟩)
/-- What Print comes to, of what was printed and read. -/
theorem form_again {g : List Rr} {hs : List Ru} (h8 : (txG g).length ≤ 8192) (h : Reads (txG g) (.inr hs)) (hsame : SameR false g (hs.map Ru.rr)) {x : Nat ⊕ List UInt8} (hx : PrRes (hs.map Ru.rr) x) : x = .inr (txG g) := by
  rw [hsame.tx] at h h8 ⊢
  exact res_is hx (reads_ok h) h8 h
end Go.Proofs.YtjlcoldnhbkcgaaGreatDoor
namespace Go.Proofs.YtjlcoldnhbkcgaaGreatDoor
open Go.RowKit Go.Sort

theorem below_drews {w w1 : World} (h : Below w.drew.heap.size w.drew w1) : Below w.heap.size w w1.drew := ((drew_below w).trans h).trans ((drew_below w1).mono (by have := h.size; simpa using this))
set_option maxRecDepth 100000 in
set_option maxHeartbeats 6400000 in
theorem sameR_nil (at_ : Bool) {a a' : Option Addr} {cap cap' : Nat} (w : World) : Calls Tryz.prog 21 #[.agg #[.slice a 0 cap], .agg #[.slice a' 0 cap'], .bool at_] w (Ans (.bool true) w) := by
  have hm1 := cell_alloc_lt
  go_enter Tryz.func21, Tryz.ntmps21
  repeat (first | go_values | go_skip | go_guarded | go_step | go_upon)
  refine wp_loop_rounds 1 ?_
  rw [rounds_succ]
  repeat (first | go_values | go_skip | go_guarded | go_step | go_upon)
  go_ret
  exact ⟨rfl, (by repeat (first | exact Below.refl _ _ | assumption | refine bal ?_ _ | refine bdr ?_ | refine bdrn ?_ _ | (refine bset ?_ (by first | exact Nat.le_refl _ | (simp; done) | (simp; omega) | omega) _) | refine bstep ?_ (by assumption)))⟩
set_option maxRecDepth 100000 in
set_option maxHeartbeats 6400000 in
theorem sameR_rules (at_ : Bool) {n g g' o o' cap cap' : Nat} {l l' : List Rr} {P P' : Nat → Prop} (w : World) (hl : SameR at_ l l') (hn : l.length = n) (_ : n ≤ cap) (_ : n ≤ cap') (hmax : n ≤ maxLen) (hg : P g) (hg' : P' g') (r1 : RepR w P g o l) (r2 : RepR w P' g' o' l') (hP : ∀ b, P b → b < w.heap.size) (hP' : ∀ b, P' b → b < w.heap.size) :
    Calls Tryz.prog 21 #[.agg #[.slice (some ⟨g, o, none⟩) n cap], .agg #[.slice (some ⟨g', o', none⟩) n cap'], .bool at_] w (Ans (.bool true) w) := by
  have hm1 := cell_alloc_lt
  have HL := Lib.hid hl
  have HN := Lib.hid hn
  have hn' : l'.length = n := by rw [← hl.length]; exact hn
  have HN' := Lib.hid hn'
  have R1 := Lib.hid r1
  have R2 := Lib.hid r2
  have HG := Lib.hid hg
  have HG' := Lib.hid hg'
  have HP := Lib.hid hP
  have HP' := Lib.hid hP'
  have lg := hP g hg
  have lg' := hP' g' hg'
  unfold maxLen at hmax
  clear hl hn hn' r1 r2 hg hg' hP hP'
  go_enter Tryz.func21, Tryz.ntmps21
  repeat (first | go_values | go_skip | go_guarded | go_step | go_upon)
  go_loopw [7] (fun tt wr => ∃ j : Nat, tt = .int .i64 (j : Int) ∧ j ≤ n ∧ Below ((w.alloc (.cells #[.slice (some ⟨g, o, none⟩) n cap] 24)).alloc (.cells #[.slice (some ⟨g', o', none⟩) n cap'] 24)).heap.size ((w.alloc (.cells #[.slice (some ⟨g, o, none⟩) n cap] 24)).alloc (.cells #[.slice (some ⟨g', o', none⟩) n cap'] 24)) wr) (fun tt _ => n - (intOf tt).toNat)
  case atStart => exact ⟨0, rfl, Nat.zero_le _, Below.refl _ _⟩
  case round =>
    obtain ⟨j, rfl, hj, hbr⟩ := hrel
    have HB := Lib.hid hbr
    have hA := (hbr.block w.heap.size (by simp; omega)).trans ((RowKit.Below.heap_alloc _ _ _ (by simp)).trans (heap_alloc_new w (.cells #[.slice (some ⟨g, o, none⟩) n cap] 24)))
    have hB := (hbr.block (w.heap.size + 1) (by simp)).trans (allocs_new w (.cells #[.slice (some ⟨g, o, none⟩) n cap] 24) (.cells #[.slice (some ⟨g', o', none⟩) n cap'] 24))
    have s1 : wr.cell? ⟨w.heap.size, 0, none⟩ = some (.slice (some ⟨g, o, none⟩) n cap) := (cells_at hA).1 0
    have s2 : wr.cell? ⟨w.heap.size + 1, 0, none⟩ = some (.slice (some ⟨g', o', none⟩) n cap') := (cells_at hB).1 0
    have q1 := (cells_at hA).2.2
    have q2 := (cells_at hB).2.2
    have hw : Below w.heap.size w wr := (bal (bal (Below.refl _ w) _) _).trans (hbr.mono (by simp; omega))
    have HW := Lib.hid hw
    clear hA hB hbr hw
    by_cases hlt : j < n
    · obtain ⟨y, hy⟩ : ∃ y, l[j]? = some y := ⟨l[j]'(by rw [HN.out]; exact hlt), List.getElem?_eq_getElem (by rw [HN.out]; exact hlt)⟩
      obtain ⟨y', hy'⟩ : ∃ y', l'[j]? = some y' := ⟨l'[j]'(by rw [HN'.out]; exact hlt), List.getElem?_eq_getElem (by rw [HN'.out]; exact hlt)⟩
      obtain ⟨hnm, hsb, hpp⟩ := HL.out.get hy hy'
      obtain ⟨k1, t1, x1, sa, sn, sc, p1, l1, _, q0, _, a9, a0, a1, a2, a3, a4, a5, a6, a7, a8⟩ := (R1.out.mono (w' := wr) (P' := P) (fun b hb => HW.out.block b (HP.out b hb)) (fun _ h => h) HG.out).get hy
      obtain ⟨k2, t2, x2, sa2, sn2, sc2, p2, l2, _, q0', _, b9, b0, b1, b2, b3, b4, b5, b6, b7, b8⟩ := (R2.out.mono (w' := wr) (P' := P') (fun b hb => HW.out.block b (HP'.out b hb)) (fun _ h => h) HG'.out).get hy'
      have hz := HW.out.size
      have qg : g < wr.heap.size := Nat.lt_of_lt_of_le lg hz
      have qg' : g' < wr.heap.size := Nat.lt_of_lt_of_le lg' hz
      have HC := Lib.hid (fun (w' : World) (e : w'.heap = wr.heap) => sameT_any at_ y.body y'.body w' P P' _ _ hsb (q0.mono (w' := w') (fun b _ => by rw [e]) (fun _ h => h)) (q0'.mono (w' := w') (fun b _ => by rw [e]) (fun _ h => h)) (fun b hb => by rw [e]; exact Nat.lt_of_lt_of_le (HP.out b hb) hz) (fun b hb => by rw [e]; exact Nat.lt_of_lt_of_le (HP'.out b hb) hz))
      rw [← hnm] at b9
      clear hy hy' q0 q0' hsb hnm
      have d1 : decide ((j : Int) < n) = true := by simpa using hlt
      repeat (first | go_values | go_skip | go_guarded | go_step | go_upon)
      go_still_tail 13, (by kernel_rfl)
      repeat (first | go_values | go_skip | go_guarded | go_step | go_upon)
      refine (HC.out wr.drew rfl).mono ?_
      rintro e w1 ⟨rfl, hb1⟩
      obtain ⟨hc1, hf1⟩ := bcell hb1
      simp only [World.size_drew] at hc1
      have hz1 := hb1.size
      simp only [World.size_drew] at hz1
      dsimp only
      repeat (first | go_values | go_skip | go_guarded | go_step | go_upon)
      have s1' : w1.cell? ⟨w.heap.size, 0, none⟩ = some (.slice (some ⟨g, o, none⟩) n cap) := (hc1 _ _ q1).trans s1
      have s2' : w1.cell? ⟨w.heap.size + 1, 0, none⟩ = some (.slice (some ⟨g', o', none⟩) n cap') := (hc1 _ _ q2).trans s2
      have a8' : w1.cell? ⟨g, o + j * 10 + 9, none⟩ = some (.int .i64 y.pos) := (hc1 _ _ qg).trans a8
      have a9' : w1.cell? ⟨g, o + j * 10, none⟩ = some (.string (mkS y.name)) := (hc1 _ _ qg).trans a9
      have b8' : w1.cell? ⟨g', o' + j * 10 + 9, none⟩ = some (.int .i64 y'.pos) := (hc1 _ _ qg').trans b8
      have b9' : w1.cell? ⟨g', o' + j * 10, none⟩ = some (.string (mkS y.name)) := (hc1 _ _ qg').trans b9
      clear a0 a1 a2 a3 a4 a5 a6 a7 b0 b1 b2 b3 b4 b5 b6 b7 hm1 hc1 hf1 s1 s2 a8 a9 b8 b9
      cases at_ with
      | false =>
        clear hpp
        with_reducible refine wp_region_still_lit (by kernel_rfl) (by kernel_rfl) ?_
        repeat
          with_reducible refine wpStill_step (fun K hK => ?_)
          go_simp
          with_reducible refine hK _ ?_
          clear hK K
        with_reducible refine wpStill_nil ?_
        simp only [Exit.then]
        repeat (first | go_values | go_skip | go_guarded | go_step | go_upon)
        exact ⟨⟨j + 1, by go_num, by omega, HB.out.trans (below_drews hb1 |>.mono HB.out.size)⟩, by simp [intOf]; omega⟩
      | true =>
        rw [← hpp rfl] at b8'
        clear hpp
        with_reducible refine wp_region_still_lit (by kernel_rfl) (by kernel_rfl) ?_
        repeat
          with_reducible refine wpStill_step (fun K hK => ?_)
          go_simp
          with_reducible refine hK _ ?_
          clear hK K
        with_reducible refine wpStill_nil ?_
        simp only [Exit.then]
        repeat (first | go_values | go_skip | go_guarded | go_step | go_upon)
        exact ⟨⟨j + 1, by go_num, by omega, HB.out.trans (below_drews hb1 |>.mono HB.out.size)⟩, by simp [intOf]; omega⟩
    · have d1 : decide (j < n) = false := by simpa using hlt
      clear hlt
      repeat (first | go_values | go_skip | go_guarded | go_step | go_upon)
      go_ret
      exact ⟨rfl, (bal (bal (Below.refl _ w) _) _).trans (HB.out.mono (by simp; omega))⟩
theorem sameR_any (at_ : Bool) {gs gs' : List Rr} {v v' : Value} {P P' : Nat → Prop} (w : World) (h : SameR at_ gs gs') (g1 : RepGr w P gs v) (g2 : RepGr w P' gs' v') (hP : ∀ b, P b → b < w.heap.size) (hP' : ∀ b, P' b → b < w.heap.size) :
    Calls Tryz.prog 21 #[.agg #[v], .agg #[v'], .bool at_] w (Ans (.bool true) w) := by
  have hle := h.length
  rcases g1.parts with ⟨rfl, rfl⟩ | ⟨rfl, a, cap, rfl⟩ | ⟨g, o, cap, rfl, hg, hpos, hcap, hmax, hr⟩
  · rcases g2.parts with ⟨rfl, rfl⟩ | ⟨rfl, a', cap', rfl⟩ | ⟨g', o', cap', rfl, hg', hpos', hcap', hmax', hr'⟩
    · exact sameR_nil at_ w
    · exact sameR_nil at_ w
    · rw [List.length_nil] at hle; omega
  · rcases g2.parts with ⟨rfl, rfl⟩ | ⟨rfl, a', cap', rfl⟩ | ⟨g', o', cap', rfl, hg', hpos', hcap', hmax', hr'⟩
    · exact sameR_nil at_ w
    · exact sameR_nil at_ w
    · rw [List.length_nil] at hle; omega
  · rcases g2.parts with ⟨rfl, rfl⟩ | ⟨rfl, a', cap', rfl⟩ | ⟨g', o', cap', rfl, hg', hpos', hcap', hmax', hr'⟩
    · rw [List.length_nil] at hle; omega
    · rw [List.length_nil] at hle; omega
    · rw [← hle] at hcap' ⊢
      exact sameR_rules at_ w h rfl hcap hcap' hmax hg hg' hr hr' hP hP'
end Go.Proofs.YtjlcoldnhbkcgaaGreatDoor
namespace Go.Proofs.YtjlcoldnhbkcgaaGreatDoor
open Go.ChangeShapes Go.WideShapes Go.RowKit
def laidL : List (String × DataW Unit) := [("errors.errorType", Rows.laid_errors_errorType)]
theorem door_et : Tryz.prog.globalNamed "errors.errorType" = some 0 := by kernel_rfl
theorem door_rt : (Tryz.prog.cutTypes.find? (·.1 == "internal/reflectlite.rtype")).map (·.2) = some 160 := by kernel_rfl
theorem door_row : ((List.range 245).filter fun t => Tryz.prog.rowNamed t [101, 114, 114, 111, 114]) = [28] := by kernel_rfl
theorem door_size : Tryz.prog.types.size = 245 := by kernel_rfl
theorem handle_of_laid {W : World} (h : laidMetH Tryz.prog laidL W) : Laid W := by
  have h' : laidMet Tryz.prog [] W ∧ handlesMet Tryz.prog laidL W := h
  obtain ⟨name, u, ty, e1, e2, e3, e4, e5⟩ := h'.2 _ (List.mem_singleton.2 rfl)
  have en : name = [101, 114, 114, 111, 114] := (Option.some.inj e1).symm
  subst en
  obtain rfl := Option.some.inj (door_rt.symm.trans e2)
  have hm : ty ∈ (List.range 245).filter fun t => Tryz.prog.rowNamed t [101, 114, 114, 111, 114] := List.mem_filter.2 ⟨List.mem_range.2 (by rw [← door_size]; exact e3), e4⟩
  rw [door_row] at hm
  obtain rfl := List.mem_singleton.1 hm
  have hh : typeHandle Tryz.prog 28 = .pointer (some ⟨2, 28, none⟩) := by kernel_rfl
  rw [hh] at e5
  unfold Laid
  simpa using World.var?_cell door_et e5 0
noncomputable def laidWorld (os : Os) : World :=
  let w0 := World.holding Tryz.prog os ⟨#[], #[], []⟩
  { w0 with heap := w0.heap.modify 0 fun
      | .cells _ t frozen => .cells #[.iface 160 (.agg #[.pointer (some ⟨2, 28, none⟩)])] t frozen
      | o => o }
theorem laidWorld_met (os : Os) (args : Array Value) : laidMetH Tryz.prog laidL ((laidWorld os).forCall (fun _ _ => 0) ⟨#[], args, []⟩).memory :=
  laidMetH_of_parts (laidMet_nil _ _) (by kernel_rfl)
end Go.Proofs.YtjlcoldnhbkcgaaGreatDoor
namespace Go.Proofs.YtjlcoldnhbkcgaaGreatDoor
open Go.RowKit Go.Sort

theorem rep_kind {w : World} {P : Nat → Prop} {k a p p' : Nat} {t t' : List UInt8} {c c' : BitVec 256} {l : List Nd} {v : Value} (h : Rep w P (.mk k t c l p) (ndC a t' c' v p')) : a = k := by
  obtain ⟨k2, t2, x2, v2, l2, e1, e2, _⟩ := h.form
  injection e1 with e3
  simp only [ndC, List.cons.injEq, Value.int.injEq] at e2
  omega
/-- A grammar that is not empty, in memory. -/
theorem GRep.row {w : World} {P : Nat → Prop} {gs : List Ru} {v : Value} (h : GRep w P gs v) (h0 : gs ≠ []) : ∃ b cap cur cs, v = .slice (some ⟨b, 0, none⟩) gs.length cap ∧ P b ∧ w.heap[b]? = some (.cells cur 42 (0, 0)) ∧ gs.length ≤ cap ∧ gs.length ≤ maxLen ∧ cur.toList.take (gs.length * 10) = cs ∧ RuReps w P gs cs := by
  rcases h with ⟨rfl, _⟩ | ⟨b, cap, cur, cs, h1, h2, h3, h4, h5, h6, h7, h8⟩
  · exact absurd rfl h0
  · exact ⟨b, cap, cur, cs, h1, h2, h3, h4, h5, h7, h8⟩
end Go.Proofs.YtjlcoldnhbkcgaaGreatDoor
