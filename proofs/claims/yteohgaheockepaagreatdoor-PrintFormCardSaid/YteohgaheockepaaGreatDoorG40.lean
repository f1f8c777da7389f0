/- How large a tree is that was read: plain. | The walk of the printer laws' small case. | The walk of PrintForm. -/
import Derived.Test.YteohgaheockepaaGreatDoorG38
import Derived.Test.YteohgaheockepaaGreatDoorG30
import Derived.Test.YteohgaheockepaaGreatDoorG39
import Derived.Test.YteohgaheockepaaGreatDoorG31
import Derived.Test.YteohgaheockepaaGreatDoorG13
namespace Go.Proofs.YteohgaheockepaaGreatDoor
open Go.RowKit

theorem toksGo_most {s : List UInt8} : ∀ {f a : Nat} {l r : List Tok}, toksGo s f a l = .inr r → a ≤ s.length → r.length + a ≤ l.length + s.length + 1 := by
  intro f
  induction f with
  | zero => intro a l r h; cases h
  | succ f ih =>
    intro a l r h ha
    rw [toksGo] at h
    split at h
    · have e := Sum.inr.inj h
      subst e
      simp
      omega
    split at h
    · next h1 h35 =>
      have b := noteEnd_bd (s := s) (a := a) (by omega) (by omega)
      have := ih h b.2
      omega
    split at h
    · have := ih h (by omega)
      omega
    split at h
    · cases h
    · next h1 _ _ t n e =>
      have b := tokAt_bd (by omega) e
      have := ih h b.2.1
      simp at this
      omega
theorem lexed_most {s : List UInt8} {l : List Tok} (h : lexed s = .inr l) : l.length ≤ s.length + 1 ∧ s.length ≤ 8192 := by
  obtain ⟨h1, h2⟩ := lexed_inr h
  have := toksGo_most h2 (by omega)
  simp at this
  omega
/-- How many letters tokens hold, and how many they are. -/
def tw : List Tok → Nat
  | [] => 0
  | t :: l => t.text.length + 1 + tw l
theorem tw_tail (ts : List Tok) : tw ts.tail ≤ tw ts := by
  cases ts with
  | nil => exact Nat.le_refl _
  | cons t l => show tw l ≤ _; rw [tw]; omega
theorem tw_sign {ts : List Tok} (h : sgnOf ts ≠ []) : tw ts.tail + 1 ≤ tw ts := by
  cases ts with
  | nil => exact absurd rfl h
  | cons t l => show tw l + 1 ≤ _; rw [tw]; omega
theorem tw_le {ts : List Tok} (h : Toks ts) : tw ts ≤ 256 * ts.length := by
  induction ts with
  | nil => exact Nat.le_refl _
  | cons t l ih =>
    have h1 := (h t List.mem_cons_self).len
    have h2 := ih (fun u hu => h u (List.mem_cons_of_mem _ hu))
    rw [tw, List.length_cons]
    omega
theorem pre_ne {s : List UInt8} (h : preK s ≠ 0) : s ≠ [] := fun e => h (by rw [e]; rfl)
theorem suf_ne {s : List UInt8} (h : sufK s ≠ 0) : s ≠ [] := fun e => h (by rw [e]; rfl)
theorem bulk_join (k : Nat) (l : List Nd) : (joinN k l).tr.bulk ≤ Tr.bulks (Nd.trs l) + 1 := by
  match l with
  | [] => rw [joinN, Nd.tr, Nd.trs, Tr.bulk]; simp [Tr.bulks]
  | [x] => rw [joinN, Nd.trs, Nd.trs, Tr.bulks, Tr.bulks]; omega
  | x :: y :: l => rw [joinN, Nd.tr, Tr.bulk]; simp; omega
theorem trs_snoc (l : List Nd) (n : Nd) : Tr.bulks (Nd.trs (l ++ [n])) = Tr.bulks (Nd.trs l) + n.tr.bulk := by
  induction l with
  | nil => simp [Nd.trs, Tr.bulks]
  | cons x l ih => rw [List.cons_append, Nd.trs, Nd.trs, Tr.bulks, Tr.bulks, ih]; omega
theorem bulk_leaf (k : Nat) (t : List UInt8) (c : BitVec 256) (p : Nat) : (Nd.mk k t c [] p).tr.bulk = t.length + 1 := by rw [Nd.tr, Nd.trs, Tr.bulk, Tr.bulks]
theorem bulk_sign (k p : Nat) (n : Nd) : (Nd.mk k [] 0 [n] p).tr.bulk = n.tr.bulk + 1 := by rw [Nd.tr, Nd.trs, Nd.trs, Tr.bulk, Tr.bulks, Tr.bulks]; simp; omega
structure Bulk (f : Nat) : Prop where
  choice : ∀ {d : Nat} {ts r : List Tok} {n : Nd}, pChoice f d ts = some (.ok n r) → n.tr.bulk + 4 * tw r ≤ 4 * tw ts + 2
  alts : ∀ {d : Nat} {ts r : List Tok} {n : Nd} {l : List Nd}, pAlts f d ts l = some (.ok n r) → n.tr.bulk + 4 * tw r ≤ 4 * tw ts + Tr.bulks (Nd.trs l) + 1
  parts : ∀ {d : Nat} {ts r : List Tok} {n : Nd} {l : List Nd}, pParts f d ts l = some (.ok n r) → n.tr.bulk + 4 * tw r ≤ 4 * tw ts + Tr.bulks (Nd.trs l) + 1
  part : ∀ {d : Nat} {ts r : List Tok} {n : Option Nd}, pPart f d ts = some (.ok n r) → tw r ≤ tw ts ∧ ∀ m, n = some m → m.tr.bulk + 4 * tw r ≤ 4 * tw ts
  one : ∀ {d : Nat} {ts r : List Tok} {n : Option Nd}, pOne f d ts = some (.ok n r) → tw r ≤ tw ts ∧ ∀ m, n = some m → m.tr.bulk + 4 * tw r ≤ 4 * tw ts
theorem bulk_all : ∀ f, Bulk f := by
  intro f
  induction f with
  | zero => exact ⟨fun h => by simp [pChoice] at h, fun h => by simp [pAlts] at h, fun h => by simp [pParts] at h, fun h => by simp [pPart] at h, fun h => by simp [pOne] at h⟩
  | succ f ih =>
    refine ⟨fun {d ts r n} h => ?_, fun {d ts r n l} h => ?_, fun {d ts r n l} h => ?_, fun {d ts r n} h => ?_, fun {d ts r n} h => ?_⟩
    · rw [pChoice] at h
      cases e1 : pParts f d ts [] with
      | none => rw [e1] at h; cases h
      | some y =>
        rw [e1] at h
        cases y with
        | err c x => cases h
        | ok m r1 =>
          have k1 := ih.parts e1
          have k2 := ih.alts h
          rw [Nd.trs, Nd.trs, Tr.bulks, Tr.bulks] at k2
          rw [Nd.trs, Tr.bulks] at k1
          omega
    · rw [pAlts] at h
      split at h
      · next h47 =>
        have hw := tw_sign (ts := ts) (by rw [h47]; simp)
        cases e1 : pParts f d ts.tail [] with
        | none => rw [e1] at h; cases h
        | some y =>
          rw [e1] at h
          cases y with
          | err c x => cases h
          | ok m r1 =>
            have k1 := ih.parts e1
            have k2 := ih.alts h
            rw [trs_snoc] at k2
            rw [Nd.trs, Tr.bulks] at k1
            omega
      · have e2 := Option.some.inj h
        injection e2 with e3 e4
        subst e3 e4
        have := bulk_join 7 l
        omega
    · rw [pParts] at h
      cases e1 : pPart f d ts with
      | none => rw [e1] at h; cases h
      | some y =>
        rw [e1] at h
        cases y with
        | err c x => cases h
        | ok m r1 =>
          obtain ⟨k1, k2⟩ := ih.part e1
          cases m with
          | some m =>
            have k3 := k2 m rfl
            have k4 := ih.parts h
            rw [trs_snoc] at k4
            omega
          | none =>
            simp only at h
            split at h
            · have e2 := Option.some.inj h
              injection e2 with e3 e4
              subst e3 e4
              rw [bulk_leaf]
              simp
              omega
            · have e2 := Option.some.inj h
              injection e2 with e3 e4
              subst e3 e4
              have := bulk_join 6 l
              omega
    · rw [pPart] at h
      have ht2 : tw (if preK (sgnOf ts) = 0 then ts else ts.tail) + (if preK (sgnOf ts) = 0 then 0 else 1) ≤ tw ts := by
        split
        · omega
        · next hs => exact tw_sign (pre_ne hs)
      cases e1 : pOne f d (if preK (sgnOf ts) = 0 then ts else ts.tail) with
      | none => rw [e1] at h; cases h
      | some y =>
        rw [e1] at h
        cases y with
        | err c x => cases h
        | ok m r1 =>
          obtain ⟨k1, k2⟩ := ih.one e1
          cases m with
          | none =>
            simp only at h
            split at h
            · have e2 := Option.some.inj h
              injection e2 with e3 e4
              subst e3 e4
              exact ⟨by omega, fun m e => (by cases e)⟩
            · cases h
          | some m =>
            have k3 := k2 m rfl
            have e2 := Option.some.inj h
            injection e2 with e3 e4
            subst e3 e4
            have hr : tw (if sufK (sgnOf r1) = 0 then r1 else r1.tail) + (if sufK (sgnOf r1) = 0 then 0 else 1) ≤ tw r1 := by
              split
              · omega
              · next hs => exact tw_sign (suf_ne hs)
            refine ⟨by omega, fun m2 e => ?_⟩
            have e := Option.some.inj e
            subst e
            obtain ⟨n1, hn1⟩ : ∃ n1, n1 = (if sufK (sgnOf r1) = 0 then m else .mk (sufK (sgnOf r1)) [] 0 [m] m.pos) := ⟨_, rfl⟩
            rw [← hn1]
            have q1 : n1.tr.bulk ≤ m.tr.bulk + (if sufK (sgnOf r1) = 0 then 0 else 1) := by
              rw [hn1]
              split
              · omega
              · rw [bulk_sign]; omega
            have q2 : (if preK (sgnOf ts) = 0 then n1 else Nd.mk (preK (sgnOf ts)) [] 0 [n1] (posT ts)).tr.bulk ≤ n1.tr.bulk + (if preK (sgnOf ts) = 0 then 0 else 1) := by
              split
              · omega
              · rw [bulk_sign]; omega
            omega
    · cases ts with
      | nil => rw [pOne] at h; cases h
      | cons t rs =>
        have leaf : ∀ (k : Nat) (c : BitVec 256) (p : Nat) (x : List UInt8), x.length ≤ t.text.length → tw rs ≤ tw (t :: rs) ∧ ∀ m : Nd, some (Nd.mk k x c [] p) = some m → m.tr.bulk + 4 * tw rs ≤ 4 * tw (t :: rs) := by
          intro k c p x hx
          rw [tw]
          refine ⟨by omega, fun m e => ?_⟩
          have e := Option.some.inj e
          subst e
          rw [bulk_leaf]
          omega
        rw [pOne] at h
        split at h
        · split at h
          · have e2 := Option.some.inj h
            injection e2 with e3 e4
            subst e3 e4
            exact ⟨Nat.le_refl _, fun m e => (by cases e)⟩
          · have e2 := Option.some.inj h
            injection e2 with e3 e4
            subst e3 e4
            exact leaf _ _ _ _ (Nat.le_refl _)
        split at h
        · have e2 := Option.some.inj h
          injection e2 with e3 e4
          subst e3 e4
          exact leaf _ _ _ _ (Nat.le_refl _)
        split at h
        · have e2 := Option.some.inj h
          injection e2 with e3 e4
          subst e3 e4
          exact leaf _ _ _ _ (Nat.le_refl _)
        split at h
        · have e2 := Option.some.inj h
          injection e2 with e3 e4
          subst e3 e4
          exact leaf _ _ _ _ (by simp)
        split at h
        · split at h
          · cases h
          cases e1 : pChoice f (d + 1) rs with
          | none => rw [e1] at h; cases h
          | some y =>
            rw [e1] at h
            cases y with
            | err c x => cases h
            | ok m r1 =>
              have g1 := ih.choice e1
              have g2 := tw_tail r1
              simp only at h
              split at h
              · have e2 := Option.some.inj h
                injection e2 with e3 e4
                subst e3 e4
                rw [tw]
                refine ⟨by omega, fun m2 e => ?_⟩
                have e := Option.some.inj e
                subst e
                omega
              · cases h
        · have e2 := Option.some.inj h
          injection e2 with e3 e4
          subst e3 e4
          exact ⟨Nat.le_refl _, fun m e => (by cases e)⟩
theorem rules_bulk : ∀ (f : Nat) {ts r : List Tok} {acc g : List Ru}, pRules f ts acc = some (.ok g r) → Rr.bulks (g.map Ru.rr) ≤ Rr.bulks (acc.map Ru.rr) + 4 * tw ts := by
  intro f
  induction f with
  | zero => intro ts r acc g h; cases h
  | succ f ih =>
    intro ts r acc g h
    rw [pRules] at h
    split at h
    · have e2 := Option.some.inj h
      injection e2 with e3 _
      subst e3
      omega
    split at h
    · cases h
    split at h
    · cases h
    next k1 =>
    split at h
    · cases h
    next k2 =>
    cases e1 : pChoice f 0 ts.tail.tail with
    | none => rw [e1] at h; cases h
    | some y =>
      rw [e1] at h
      cases y with
      | err c x => cases h
      | ok n r1 =>
        have g1 := (bulk_all f).choice e1
        have g2 := ih h
        rw [List.map_append, List.map_singleton, Rr.bulks_snoc] at g2
        have g3 : (Ru.rr ⟨nameT ts, n, posT ts⟩).bulk = (nameT ts).length + n.tr.bulk := rfl
        rw [g3] at g2
        have g4 : (nameT ts).length + 1 + tw ts.tail ≤ tw ts := by
          cases ts with
          | nil => exact absurd (fun e => by cases e) k1
          | cons t rs => exact Nat.le_refl _
        have g5 : tw ts.tail.tail + 1 ≤ tw ts.tail := by
          cases hx : ts.tail with
          | nil => rw [hx] at k2; exact absurd (fun e => by cases e) k2
          | cons t rs => show tw rs + 1 ≤ _; rw [tw]; omega
        omega
theorem reads_bulk {s : List UInt8} {g : List Ru} (h : Reads s (.inr g)) : Rr.bulks (g.map Ru.rr) ≤ 1000000000 := by
  unfold Reads at h
  cases e1 : lexed s with
  | inl er => rw [e1] at h; cases h
  | inr l =>
    rw [e1] at h
    obtain ⟨f, h⟩ := h
    rcases h with ⟨_, _, _, e⟩ | ⟨g', r, q, e⟩
    · cases e
    · injection e with e
      subst e
      have h1 := rules_bulk f q
      have h2 := tw_le (lexed_ok2 e1)
      have h3 := lexed_most e1
      simp only [List.map_nil, Rr.bulks] at h1
      omega
end Go.Proofs.YteohgaheockepaaGreatDoor
namespace Go.Proofs.YteohgaheockepaaGreatDoor
open Go.RowKit Go.Sort

theorem gbulk {w : World} {P : Nat → Prop} {gs : List Ru} {v : Value} (h : GRep w P gs v) : ∃ a cap, v = .slice a gs.length cap := by
  obtain ⟨a, cap, e, _⟩ := h.anyG.slice
  rw [List.length_map] at e
  exact ⟨a, cap, e⟩
theorem small5_bulk : Rr.bulks (small5G.map Ru.rr) ≤ 1000000000 := by
  simp [small5G, Ru.rr, Nd.tr, Nd.trs, Rr.bulks, Rr.bulk, Tr.bulk, Tr.bulks]
set_option maxRecDepth 100000 in
set_option maxHeartbeats 3200000 in
theorem small5_any (w : World) (hg : Laid w) : Calls Tryz.prog 5 #[] w (Ans (.bool true) w) := by
  have HR := Lib.hid (show Reads (bl ⟨#[97, 60, 45, 40, 40, 39, 120, 39, 41, 41, 47, 98, 42, 33, 40, 99, 32, 100, 41]⟩) _ from small5_reads)
  have HL := Lib.hid hg
  have hm1 := cell_alloc_lt
  clear hg
  go_enter Tryz.func5, Tryz.ntmps5
  repeat (first | go_values | go_skip | go_guarded | go_step | go_upon)
  refine (syn_inr ⟨#[97, 60, 45, 40, 40, 39, 120, 39, 41, 41, 47, 98, 42, 33, 40, 99, 32, 100, 41]⟩ _ HL.out (by decide) HR.out).mono ?_
  rintro e w1 ⟨⟨v, rfl, hG⟩, hb1⟩
  obtain ⟨a, cap, rfl⟩ := gbulk hG
  have HG := Lib.hid hG.anyG
  have HB := Lib.hid hb1
  clear hG
  dsimp only
  repeat (first | go_values | go_skip | go_guarded | go_step | go_upon)
  refine (print_any _ (HL.out.below (by repeat (first | exact Below.refl _ _ | assumption | refine bal ?_ _ | refine bdr ?_ | refine bdrn ?_ _ | (refine bset ?_ (by first | exact Nat.le_refl _ | (simp; done) | (simp; omega) | omega) _) | refine bstep ?_ (by assumption))) HL.out.pos) (HG.out.mono (fun b hb => RowKit.Below.heap_alloc _ _ _ hb.2) (fun _ h => h)) (fun b hb => by have := hb.2; simp; omega) small5_bulk).mono ?_
  rintro e w2 ⟨⟨r, hr2, rfl⟩, hb2⟩
  obtain rfl := small5_res hr2
  dsimp only [prVal, small5U]
  repeat (first | go_values | go_skip | go_guarded | go_step | go_upon)
  go_ret
  exact ⟨rfl, (by repeat (first | exact Below.refl _ _ | assumption | refine bal ?_ _ | refine bdr ?_ | refine bdrn ?_ _ | (refine bset ?_ (by first | exact Nat.le_refl _ | (simp; done) | (simp; omega) | omega) _) | refine bstep ?_ (by assumption)))⟩
end Go.Proofs.YteohgaheockepaaGreatDoor
namespace Go.Proofs.YteohgaheockepaaGreatDoor
open Go.RowKit Go.Sort

theorem bl_mkb (a : List UInt8) : bl (⟨a.toArray⟩ : ByteArray) = a := by simp [bl]
set_option maxRecDepth 100000 in
set_option maxHeartbeats 6400000 in
theorem pform_any (S : ByteArray) (w : World) (hg : Laid w) (hs : S.size ≤ 140737488351232) : Calls Tryz.prog 3 #[.string S] w (Ans (.bool true) w) := by
  have HL := Lib.hid hg
  have HL1 := Lib.hid (fun (W : World) (h : Below w.heap.size w W) => HL.out.below h HL.out.pos)
  have hm1 := cell_alloc_lt
  clear hg
  have hs2 : S.size ≤ 140737488355328 := by omega
  go_enter Tryz.func3, Tryz.ntmps3
  repeat (first | go_values | go_skip | go_guarded | go_step | go_upon)
  refine (small5_any _ (HL1.out _ (by repeat (first | exact Below.refl _ _ | assumption | refine bal ?_ _ | refine bdr ?_ | refine bdrn ?_ _ | (refine bset ?_ (by first | exact Nat.le_refl _ | (simp; done) | (simp; omega) | omega) _) | refine bstep ?_ (by assumption))))).mono ?_
  rintro e w1 ⟨rfl, hb1⟩
  obtain ⟨hc1, hf1⟩ := bcell hb1
  have hz1 := hb1.size
  try simp at hz1
  dsimp only
  have hw1 : Below w.heap.size w w1 := (by repeat (first | exact Below.refl _ _ | assumption | refine bal ?_ _ | refine bdr ?_ | refine bdrn ?_ _ | (refine bset ?_ (by first | exact Nat.le_refl _ | (simp; done) | (simp; omega) | omega) _) | refine bstep ?_ (by assumption)))
  repeat (first | go_values | go_skip | go_guarded | go_step | go_upon)
  refine (syn_any S _ (HL1.out _ hw1) hs2).mono ?_
  rintro e w2 ⟨hb2, r, hr, hp⟩
  have hw2 : Below w.heap.size w w2 := hw1.trans (hb2.mono hw1.size)
  have HR := Lib.hid hr
  clear hr
  cases r with
  | inl er =>
    obtain ⟨c, x⟩ := er
    obtain ⟨p, rfl, _, _⟩ := hp
    clear HR
    dsimp only
    repeat (first | go_values | go_skip | go_guarded | go_step | go_upon)
    go_ret
    exact ⟨rfl, (by repeat (first | exact Below.refl _ _ | assumption | refine bal ?_ _ | refine bdr ?_ | refine bdrn ?_ _ | (refine bset ?_ (by first | exact Nat.le_refl _ | (simp; done) | (simp; omega) | omega) _) | refine bstep ?_ (by assumption)))⟩
  | inr g =>
    obtain ⟨v, rfl, hG⟩ := hp
    obtain ⟨a, cap, rfl⟩ := gbulk hG
    have HG := Lib.hid hG.anyG
    have HB := Lib.hid (reads_bulk HR.out)
    have q2 : w.heap.size ≤ w2.heap.size := hw2.size
    clear hG
    dsimp only
    repeat (first | go_values | go_skip | go_guarded | go_step | go_upon)
    refine (print_any _ (HL1.out _ (by repeat (first | exact Below.refl _ _ | assumption | refine bal ?_ _ | refine bdr ?_ | refine bdrn ?_ _ | (refine bset ?_ (by first | exact Nat.le_refl _ | (simp; done) | (simp; omega) | omega) _) | refine bstep ?_ (by assumption)))) (HG.out.mono (fun b hb => RowKit.Below.heap_alloc _ _ _ hb.2) (fun _ h => h)) (fun b hb => by have := hb.2; simp; omega) HB.out).mono ?_
    rintro e w3 ⟨⟨r3, hr3, rfl⟩, hb3⟩
    have hw3 : Below w.heap.size w w3 := hw2.trans (((bal (Below.refl _ w2) (.cells #[.slice a g.length cap] 25)).trans (hb3.mono (by simp))).mono hw2.size)
    have q3 : w2.heap.size < w3.heap.size := by have := hb3.size; simp at this; omega
    have c3 : w3.cell? ⟨w2.heap.size, 0, none⟩ = some (.slice a g.length cap) := (hb3.cell (p := ⟨w2.heap.size, 0, none⟩) (by simp)).trans (by simp)
    have hw23 : Below w2.heap.size w2 w3 := (bal (Below.refl _ w2) (.cells #[.slice a g.length cap] 25)).trans (hb3.mono (by simp))
    have HF := Lib.hid (form_res HR.out hr3)
    clear hr3
    rcases HF.out with h | ⟨h, hn⟩ | ⟨h, h8, hs, hrd, hsame⟩
    · subst h
      clear HF
      dsimp only [prVal]
      repeat (first | go_values | go_skip | go_guarded | go_step | go_upon)
      refine (code_E 2 _ (HL1.out _ (by repeat (first | exact Below.refl _ _ | assumption | refine bal ?_ _ | refine bdr ?_ | refine bdrn ?_ _ | (refine bset ?_ (by first | exact Nat.le_refl _ | (simp; done) | (simp; omega) | omega) _) | refine bstep ?_ (by assumption))))).mono ?_
      rintro e w4 ⟨rfl, hb4⟩
      obtain ⟨hc4, hf4⟩ := bcell hb4
      have hz4 := hb4.size
      try simp at hz4
      dsimp only
      repeat (first | go_values | go_skip | go_guarded | go_step | go_upon)
      go_ret
      exact ⟨rfl, (by repeat (first | exact Below.refl _ _ | assumption | refine bal ?_ _ | refine bdr ?_ | refine bdrn ?_ _ | (refine bset ?_ (by first | exact Nat.le_refl _ | (simp; done) | (simp; omega) | omega) _) | refine bstep ?_ (by assumption)))⟩
    · subst h
      have HN := Lib.hid (fun (w' : World) (h : Below w2.heap.size w2 w') => nest_any true w' hn (HG.out.mono (w' := w') (fun b hb => h.block b hb.2) (fun _ h => h)) (fun b hb => Nat.lt_of_lt_of_le hb.2 h.size))
      clear HF hn
      dsimp only [prVal]
      repeat (first | go_values | go_skip | go_guarded | go_step | go_upon)
      refine (code_E 20 _ (HL1.out _ (by repeat (first | exact Below.refl _ _ | assumption | refine bal ?_ _ | refine bdr ?_ | refine bdrn ?_ _ | (refine bset ?_ (by first | exact Nat.le_refl _ | (simp; done) | (simp; omega) | omega) _) | refine bstep ?_ (by assumption))))).mono ?_
      rintro e w4 ⟨rfl, hb4⟩
      obtain ⟨hc4, hf4⟩ := bcell hb4
      have hz4 := hb4.size
      try simp at hz4
      have q4_0 : w2.heap.size < w4.heap.size := by omega
      dsimp only
      repeat (first | go_values | go_skip | go_guarded | go_step | go_upon)
      refine (HN.out _ (hw23.trans (hb4.mono (Nat.le_of_lt q3)))).mono ?_
      rintro e w5 ⟨rfl, hb5⟩
      obtain ⟨hc5, hf5⟩ := bcell hb5
      have hz5 := hb5.size
      try simp at hz5
      dsimp only
      repeat (first | go_values | go_skip | go_guarded | go_step | go_upon)
      go_ret
      exact ⟨rfl, (by repeat (first | exact Below.refl _ _ | assumption | refine bal ?_ _ | refine bdr ?_ | refine bdrn ?_ _ | (refine bset ?_ (by first | exact Nat.le_refl _ | (simp; done) | (simp; omega) | omega) _) | refine bstep ?_ (by assumption)))⟩
    · subst h
      have HRD := Lib.hid (show Reads (bl ⟨(txG (g.map Ru.rr)).toArray⟩) (.inr hs) by rw [bl_mkb]; exact hrd)
      have hsz : (⟨(txG (g.map Ru.rr)).toArray⟩ : ByteArray).size ≤ 140737488355328 := by rw [← bl_length, bl_mkb]; omega
      have HZ := Lib.hid hsz
      have H8 := Lib.hid h8
      have HS := Lib.hid hsame
      clear HF hrd hsame hsz h8
      dsimp only [prVal]
      repeat (first | go_values | go_skip | go_guarded | go_step | go_upon)
      refine (syn_inr ⟨(txG (g.map Ru.rr)).toArray⟩ _ (HL1.out _ hw3) HZ.out HRD.out).mono ?_
      rintro e w4 ⟨⟨v4, rfl, hG4⟩, hb4⟩
      obtain ⟨a4, cap4, rfl⟩ := gbulk hG4
      have HG4 := Lib.hid hG4.anyG
      have hw4 : Below w.heap.size w w4 := hw3.trans (hb4.mono hw3.size)
      have q4 : w2.heap.size < w4.heap.size := Nat.lt_of_lt_of_le q3 hb4.size
      have c4 : w4.cell? ⟨w2.heap.size, 0, none⟩ = some (.slice a g.length cap) := (hb4.cell (p := ⟨w2.heap.size, 0, none⟩) q3).trans c3
      have HB4 := Lib.hid (reads_bulk HRD.out)
      clear hG4
      dsimp only
      repeat (first | go_values | go_skip | go_guarded | go_step | go_upon)
      refine (print_any _ (HL1.out _ (by repeat (first | exact Below.refl _ _ | assumption | refine bal ?_ _ | refine bdr ?_ | refine bdrn ?_ _ | (refine bset ?_ (by first | exact Nat.le_refl _ | (simp; done) | (simp; omega) | omega) _) | refine bstep ?_ (by assumption)))) (HG4.out.mono (fun b hb => RowKit.Below.heap_alloc _ _ _ hb.2) (fun _ h => h)) (fun b hb => by have := hb.2; simp; omega) HB4.out).mono ?_
      rintro e w5 ⟨⟨r5, hr5, rfl⟩, hb5⟩
      have e5 : r5 = .inr (txG (g.map Ru.rr)) := form_again H8.out (by have := HRD.out; rw [bl_mkb] at this; exact this) HS.out hr5
      subst e5
      have q5 : w4.heap.size < w5.heap.size := by have := hb5.size; simp at this; omega
      have q6 : w2.heap.size < w5.heap.size := Nat.lt_trans q4 q5
      have c5 : w5.cell? ⟨w4.heap.size, 0, none⟩ = some (.slice a4 hs.length cap4) := (hb5.cell (p := ⟨w4.heap.size, 0, none⟩) (by simp)).trans (by simp)
      have c6 : w5.cell? ⟨w2.heap.size, 0, none⟩ = some (.slice a g.length cap) := (hb5.cell (p := ⟨w2.heap.size, 0, none⟩) (by simp; omega)).trans (by simp [World.cell?_alloc_lt, q4, c4])
      have hw45 : Below w4.heap.size w4 w5 := (bal (Below.refl _ w4) (.cells #[.slice a4 hs.length cap4] 25)).trans (hb5.mono (by simp))
      have hw25 : Below w2.heap.size w2 w5 := (((bal (Below.refl _ w2) (.cells #[.slice a g.length cap] 25)).trans (hb3.mono (by simp))).trans (hb4.mono (Nat.le_of_lt q3))).trans (hw45.mono (Nat.le_of_lt q4))
      have hw5 : Below w.heap.size w w5 := hw4.trans (hw45.mono hw4.size)
      have HE := Lib.hid (fun (w' : World) (h : Below w5.heap.size w5 w') => sameR_any false w' HS.out (HG.out.mono (w' := w') (fun b hb => (hw25.trans (h.mono hw25.size)).block b hb.2) (fun _ h => h)) (HG4.out.mono (w' := w') (fun b hb => (hw45.trans (h.mono hw45.size)).block b hb.2) (fun _ h => h)) (fun b hb => Nat.lt_of_lt_of_le hb.2 (hw25.trans (h.mono hw25.size)).size) (fun b hb => Nat.lt_of_lt_of_le hb.2 (hw45.trans (h.mono hw45.size)).size))
      clear hr5
      dsimp only [prVal]
      repeat (first | go_values | go_skip | go_guarded | go_step | go_upon)
      refine (HE.out _ (by repeat (first | exact Below.refl _ _ | assumption | refine bal ?_ _ | refine bdr ?_ | refine bdrn ?_ _ | (refine bset ?_ (by first | exact Nat.le_refl _ | (simp; done) | (simp; omega) | omega) _) | refine bstep ?_ (by assumption)))).mono ?_
      rintro e w6 ⟨rfl, hb6⟩
      obtain ⟨hc6, hf6⟩ := bcell hb6
      have hz6 := hb6.size
      try simp at hz6
      dsimp only
      repeat (first | go_values | go_skip | go_guarded | go_step | go_upon)
      go_ret
      exact ⟨rfl, hw5.trans (hb6.mono hw5.size)⟩
end Go.Proofs.YteohgaheockepaaGreatDoor
