/- How deep the parentheses of a tree's text are; a tree whose text is not too deep is read: plain. | What is read may be printed, and is no deeper than its source, if no part of it is empty: plain. -/
import Derived.Test.YtjlcoldnhbkcgaaGreatDoorG27
import Derived.Test.YtjlcoldnhbkcgaaGreatDoorG36
namespace Go.Proofs.YtjlcoldnhbkcgaaGreatDoor
open Go.RowKit

mutual
/-- How deep the parentheses of its text are. -/
def dpT : Tr → Nat
  | .mk k _ _ l _ => if k = 1 then 1 else dpL (if k = 7 then 1 else if k = 6 then 2 else if k = 11 ∨ k = 12 then 3 else 4) l
def dpL (r : Nat) : List Tr → Nat
  | [] => 0
  | n :: l => max (if r ≤ rankT n.kind then dpT n else dpT n + 1) (dpL r l)
end
def dpQ (r : Nat) (n : Tr) : Nat := if r ≤ rankT n.kind then dpT n else dpT n + 1
theorem dpL_cons (r : Nat) (n : Tr) (l : List Tr) : dpL r (n :: l) = max (dpQ r n) (dpL r l) := by rw [dpL, dpQ]
theorem dpL_one (r : Nat) (n : Tr) : dpL r [n] = dpQ r n := by rw [dpL_cons, dpL, Nat.max_zero]
def OneK (d : Nat) (ts R : List Tok) (n : Tr) : Prop := ∃ f m, pOne f d (ts ++ R) = some (.ok (some m) R) ∧ SameT false n m.tr
def SufK (d : Nat) (ts R : List Tok) (n : Tr) : Prop := ∃ f m R1, pOne f d (ts ++ R) = some (.ok (some m) R1) ∧ SameT false n (signed (sufK (sgnOf R1)) m m.pos).tr ∧ (if sufK (sgnOf R1) = 0 then R1 else R1.tail) = R
def PartK (d : Nat) (ts R : List Tok) (n : Tr) : Prop := ∃ f m, pPart f d (ts ++ R) = some (.ok (some m) R) ∧ SameT false n m.tr
def RowK (d : Nat) (ts R : List Tok) (n : Tr) : Prop := ∃ f m, pParts f d (ts ++ R) [] = some (.ok m R) ∧ SameT false n m.tr
def ChoK (d : Nat) (ts R : List Tok) (n : Tr) : Prop := ∃ f m, pChoice f d (ts ++ R) = some (.ok m R) ∧ SameT false n m.tr
def PartsK (d : Nat) (ts R : List Tok) (ns : List Tr) : Prop := ∀ acc : List Nd, ∃ f ms, pParts f d (ts ++ R) acc = some (.ok (rowN (acc ++ ms) R) R) ∧ SameU false ns (Nd.trs ms)
def AltsK (d : Nat) (ts R : List Tok) (ns : List Tr) : Prop := ∀ acc : List Nd, ∃ f ms, pAlts f d (ts ++ R) acc = some (.ok (joinN 7 (acc ++ ms)) R) ∧ SameU false ns (Nd.trs ms)
theorem OneK.suf {d : Nat} {ts R : List Tok} {n : Tr} (h : OneK d ts R n) (hR : sufK (sgnOf R) = 0) : SufK d ts R n := by
  obtain ⟨f, m, h1, h2⟩ := h
  exact ⟨f, m, R, h1, by rw [hR]; exact h2, by rw [if_pos hR]⟩
theorem SufK.part {d : Nat} {ts R : List Tok} {n : Tr} (h : SufK d ts R n) (hp : preK (sgnOf (ts ++ R)) = 0) : PartK d ts R n := by
  obtain ⟨f, m, R1, h1, h2, h3⟩ := h
  have := part_some (f := f) (d := d) (rs := ts ++ R) (rs2 := R1) (n := m) (by rw [if_pos hp]; exact h1)
  rw [hp, h3] at this
  exact ⟨f + 1, _, this, by rw [signed, if_pos rfl]; exact h2⟩
theorem PartK.cons {d : Nat} {t1 t2 R : List Tok} {n : Tr} {ns : List Tr} (h : PartK d t1 (t2 ++ R) n) (h2 : PartsK d t2 R ns) : PartsK d (t1 ++ t2) R (n :: ns) := by
  intro acc
  rw [List.append_assoc]
  obtain ⟨f, m, g1, g2⟩ := h
  obtain ⟨f2, ms, g3, g4⟩ := h2 (acc ++ [m])
  refine ⟨f + f2 + 1, m :: ms, ?_, .cons g2 g4⟩
  rw [pParts, pPart_mono g1 (by omega)]
  show pParts (f + f2) d (t2 ++ R) (acc ++ [m]) = _
  rw [pParts_mono g3 (by omega)]
  simp
theorem PartsK.stop {d : Nat} {R : List Tok} (h : StopP R) : PartsK d [] R [] := fun acc => ⟨3, [], by
  rw [List.nil_append, pParts, stop_part h, List.append_nil]
  rfl, .nil⟩
theorem PartK.row {d : Nat} {ts R : List Tok} {n : Tr} (h : PartK d ts R n) (hS : StopP R) : RowK d ts R n := by
  have h2 := (PartK.cons (t2 := []) h (PartsK.stop hS)) []
  rw [List.append_nil] at h2
  obtain ⟨f, ms, g1, g2⟩ := h2
  cases ms with
  | nil => cases g2
  | cons m ms =>
    cases g2 with
    | cons g2 g3 =>
      cases ms with
      | nil => exact ⟨f, m, g1, g2⟩
      | cons _ _ => cases g3
theorem RowK.cons {d : Nat} {s : Tok} {t1 t2 R : List Tok} {n : Tr} {ns : List Tr} (hs : sgnOf [s] = [47]) (h : RowK d t1 (t2 ++ R) n) (h2 : AltsK d t2 R ns) : AltsK d (s :: (t1 ++ t2)) R (n :: ns) := by
  intro acc
  have hs' : sgnOf (s :: (t1 ++ t2) ++ R) = [47] := hs
  have ht : (s :: (t1 ++ t2) ++ R).tail = t1 ++ (t2 ++ R) := by simp
  obtain ⟨f, m, g1, g2⟩ := h
  obtain ⟨f2, ms, g3, g4⟩ := h2 (acc ++ [m])
  refine ⟨f + f2 + 1, m :: ms, ?_, .cons g2 g4⟩
  rw [pAlts, if_pos hs', ht, pParts_mono g1 (by omega)]
  show pAlts (f + f2) d (t2 ++ R) (acc ++ [m]) = _
  rw [pAlts_mono g3 (by omega)]
  simp
theorem AltsK.stop {d : Nat} {R : List Tok} (h : sgnOf R ≠ [47]) : AltsK d [] R [] := fun acc => ⟨1, [], by
  rw [List.nil_append, pAlts, if_neg h, List.append_nil], .nil⟩
theorem RowK.cho {d : Nat} {ts R : List Tok} {n : Tr} (h : RowK d ts R n) (hS : sgnOf R ≠ [47]) : ChoK d ts R n := by
  obtain ⟨f, m, g1, g2⟩ := h
  refine ⟨f + 2, m, ?_, g2⟩
  rw [pChoice, pParts_mono g1 (by omega)]
  show pAlts (f + 1) d R [m] = _
  rw [pAlts, if_neg hS]
  rfl
/-- A choice in parentheses. -/
theorem ChoK.within {d : Nat} {a b : Tok} {ts R : List Tok} {n : Tr} (ha : a.kind = 5 ∧ a.text = [40]) (hb : b.kind = 5 ∧ b.text = [41]) (hd : d ≠ 24) (h : ChoK (d + 1) ts (b :: R) n) : OneK d (a :: (ts ++ [b])) R n := by
  have e : a :: (ts ++ [b]) ++ R = a :: (ts ++ b :: R) := by simp
  unfold OneK
  rw [e]
  have k1 : ¬ a.kind = 1 := by omega
  have k3 : ¬ a.kind = 3 := by omega
  have k4 : ¬ a.kind = 4 := by omega
  have k46 : ¬ (a.kind = 5 ∧ a.text = [46]) := by rw [ha.2]; simp
  obtain ⟨f, m, g1, g2⟩ := h
  refine ⟨f + 1, m, ?_, g2⟩
  rw [pOne, if_neg k1, if_neg k3, if_neg k4, if_neg k46, if_pos ha, if_neg hd, g1]
  simp only
  rw [if_pos (sgn_is hb.1 hb.2)]
  rfl
/-- What is shown of a tree that is not too deep. -/
structure MainD (n : Tr) : Prop where
  one : 4 ≤ rankT n.kind → ∀ d ts R, d + dpT n ≤ 24 → ts.map core = cos (pcT n) → kindT R ≠ 2 → preK (sgnOf (ts ++ R)) = 0 ∧ OneK d ts R n
  suf : 3 ≤ rankT n.kind → ∀ d ts R, d + dpT n ≤ 24 → ts.map core = cos (pcT n) → kindT R ≠ 2 → sufK (sgnOf R) = 0 → preK (sgnOf (ts ++ R)) = 0 ∧ SufK d ts R n
  part : 2 ≤ rankT n.kind → ∀ d ts R, d + dpT n ≤ 24 → ts.map core = cos (pcT n) → kindT R ≠ 2 → sufK (sgnOf R) = 0 → PartK d ts R n
  row : 1 ≤ rankT n.kind → ∀ d ts R, d + dpT n ≤ 24 → ts.map core = cos (pcT n) → StopP R → RowK d ts R n
  cho : ∀ d ts R, d + dpT n ≤ 24 → ts.map core = cos (pcT n) → StopP R → sgnOf R ≠ [47] → ChoK d ts R n
theorem dmain_row {n : Tr} (h : 1 ≤ rankT n.kind → ∀ d ts R, d + dpT n ≤ 24 → ts.map core = cos (pcT n) → StopP R → RowK d ts R n) (h1 : 1 ≤ rankT n.kind) (h2 : rankT n.kind < 2) : MainD n :=
  ⟨fun e => by omega, fun e => by omega, fun e => by omega, h, fun d ts R hd ht hS h47 => (h h1 d ts R hd ht hS).cho h47⟩
theorem dmain_part {n : Tr} (h : ∀ d ts R, d + dpT n ≤ 24 → ts.map core = cos (pcT n) → kindT R ≠ 2 → sufK (sgnOf R) = 0 → PartK d ts R n) (h1 : 2 ≤ rankT n.kind) (h2 : rankT n.kind < 3) : MainD n :=
  ⟨fun e => by omega, fun e => by omega, fun _ => h, fun _ d ts R hd ht hS => (h d ts R hd ht hS.arrow hS.suf).row hS, fun d ts R hd ht hS h47 => ((h d ts R hd ht hS.arrow hS.suf).row hS).cho h47⟩
theorem dmain_suf {n : Tr} (h : ∀ d ts R, d + dpT n ≤ 24 → ts.map core = cos (pcT n) → kindT R ≠ 2 → sufK (sgnOf R) = 0 → preK (sgnOf (ts ++ R)) = 0 ∧ SufK d ts R n) (h2 : rankT n.kind = 3) : MainD n :=
  have hp : ∀ d ts R, d + dpT n ≤ 24 → ts.map core = cos (pcT n) → kindT R ≠ 2 → sufK (sgnOf R) = 0 → PartK d ts R n := fun d ts R hd ht hk hs => (h d ts R hd ht hk hs).2.part (h d ts R hd ht hk hs).1
  ⟨fun e => by omega, fun _ => h, fun _ => hp, fun _ d ts R hd ht hS => (hp d ts R hd ht hS.arrow hS.suf).row hS, fun d ts R hd ht hS h47 => ((hp d ts R hd ht hS.arrow hS.suf).row hS).cho h47⟩
theorem dmain_one {n : Tr} (h : ∀ d ts R, d + dpT n ≤ 24 → ts.map core = cos (pcT n) → kindT R ≠ 2 → preK (sgnOf (ts ++ R)) = 0 ∧ OneK d ts R n) : MainD n :=
  have hs : ∀ d ts R, d + dpT n ≤ 24 → ts.map core = cos (pcT n) → kindT R ≠ 2 → sufK (sgnOf R) = 0 → preK (sgnOf (ts ++ R)) = 0 ∧ SufK d ts R n := fun d ts R hd ht hk hs => ⟨(h d ts R hd ht hk).1, (h d ts R hd ht hk).2.suf hs⟩
  have hp : ∀ d ts R, d + dpT n ≤ 24 → ts.map core = cos (pcT n) → kindT R ≠ 2 → sufK (sgnOf R) = 0 → PartK d ts R n := fun d ts R hd ht hk h3 => (hs d ts R hd ht hk h3).2.part (hs d ts R hd ht hk h3).1
  ⟨fun _ => h, fun _ => hs, fun _ => hp, fun _ d ts R hd ht hS => (hp d ts R hd ht hS.arrow hS.suf).row hS, fun d ts R hd ht hS h47 => ((hp d ts R hd ht hS.arrow hS.suf).row hS).cho h47⟩
/-- A part in parentheses, or as it is. -/
theorem MainD.paren {n : Tr} (h : MainD n) {d : Nat} {ts R : List Tok} (hd : d + (dpT n + 1) ≤ 24) (ht : ts.map core = cos (.sg 40 :: (pcT n ++ [.sg 41]))) : preK (sgnOf (ts ++ R)) = 0 ∧ OneK d ts R n := by
  obtain ⟨a, t2, rfl, a1, a2, _, ht2⟩ := core_cons (show ts.map core = (5, [40], 0) :: cos (pcT n ++ [.sg 41]) from ht)
  rw [cos_app] at ht2
  obtain ⟨t3, t4, rfl, ht3, ht4⟩ := core_app ht2
  obtain ⟨b, rfl, b1, b2, _⟩ := core_one ht4
  have hc := close_row (R := R) b1 b2
  exact ⟨by rw [List.cons_append, sgn_is a1 a2]; rfl, ChoK.within ⟨a1, a2⟩ ⟨b1, b2⟩ (by omega) (h.cho (d + 1) t3 (b :: R) (by omega) ht3 hc.1 hc.2)⟩
theorem MainD.one4 {n : Tr} (h : MainD n) {d : Nat} {ts R : List Tok} (hd : d + dpQ 4 n ≤ 24) (ht : ts.map core = cos (pcQ 4 n)) (hk : kindT R ≠ 2) : preK (sgnOf (ts ++ R)) = 0 ∧ OneK d ts R n := by
  unfold pcQ Go.Proofs.YtjlcoldnhbkcgaaGreatDoor.paren at ht
  unfold dpQ at hd
  split at ht
  · next h4 => rw [if_pos h4] at hd; exact h.one h4 d ts R hd ht hk
  · next h4 => rw [if_neg h4] at hd; exact h.paren hd ht
theorem MainD.suf3 {n : Tr} (h : MainD n) {d : Nat} {ts R : List Tok} (hd : d + dpQ 3 n ≤ 24) (ht : ts.map core = cos (pcQ 3 n)) (hk : kindT R ≠ 2) (hs : sufK (sgnOf R) = 0) : preK (sgnOf (ts ++ R)) = 0 ∧ SufK d ts R n := by
  unfold pcQ Go.Proofs.YtjlcoldnhbkcgaaGreatDoor.paren at ht
  unfold dpQ at hd
  split at ht
  · next h3 => rw [if_pos h3] at hd; exact h.suf h3 d ts R hd ht hk hs
  · next h3 => rw [if_neg h3] at hd; exact ⟨(h.paren (d := d) (R := R) hd ht).1, (h.paren hd ht).2.suf hs⟩
theorem MainD.part2 {n : Tr} (h : MainD n) {d : Nat} {ts R : List Tok} (hd : d + dpQ 2 n ≤ 24) (ht : ts.map core = cos (pcQ 2 n)) (hk : kindT R ≠ 2) (hs : sufK (sgnOf R) = 0) : PartK d ts R n := by
  unfold pcQ Go.Proofs.YtjlcoldnhbkcgaaGreatDoor.paren at ht
  unfold dpQ at hd
  split at ht
  · next h2 => rw [if_pos h2] at hd; exact h.part h2 d ts R hd ht hk hs
  · next h2 => rw [if_neg h2] at hd; exact ((h.paren hd ht).2.suf hs).part (h.paren (d := d) (R := R) hd ht).1
theorem MainD.row1 {n : Tr} (h : MainD n) {d : Nat} {ts R : List Tok} (hd : d + dpQ 1 n ≤ 24) (ht : ts.map core = cos (pcQ 1 n)) (hS : StopP R) : RowK d ts R n := by
  unfold pcQ Go.Proofs.YtjlcoldnhbkcgaaGreatDoor.paren at ht
  unfold dpQ at hd
  split at ht
  · next h1 => rw [if_pos h1] at hd; exact h.row h1 d ts R hd ht hS
  · next h1 => rw [if_neg h1] at hd; exact (((h.paren hd ht).2.suf hS.suf).part (h.paren (d := d) (R := R) hd ht).1).row hS
/-- Parts, one behind another. -/
theorem dparts_list {d : Nat} {R : List Tok} (hS : StopP R) : ∀ (l : List Tr) (first : Bool), (∀ n ∈ l, MainD n) → (∀ n ∈ l, OkT n) → d + dpL 2 l ≤ 24 → ∀ ts, ts.map core = cos (pcR [.sp] 2 first l) → PartsK d ts R l ∧ (l = [] → ts = []) ∧ (l ≠ [] → StartP ts) := by
  intro l
  induction l with
  | nil =>
    intro first _ _ _ ts ht
    rw [pcR_nil] at ht
    obtain rfl : ts = [] := List.map_eq_nil_iff.1 ht
    exact ⟨PartsK.stop hS, fun _ => rfl, fun h => absurd rfl h⟩
  | cons n l ih =>
    intro first hm ho hd ts ht
    rw [dpL_cons] at hd
    have ht2 : ts.map core = cos (pcQ 2 n) ++ cos (pcR [.sp] 2 false l) := by
      rw [ht, pcR_cons, cos_app, cos_app]
      cases first <;> rfl
    obtain ⟨t1, t2, rfl, h1, h2⟩ := core_app ht2
    obtain ⟨g1, g2, g3⟩ := ih false (fun m h => hm m (List.mem_cons_of_mem _ h)) (fun m h => ho m (List.mem_cons_of_mem _ h)) (by omega) t2 h2
    have hr := stopP_rest (ts := t2) hS (by
      cases l with
      | nil => exact .inl (g2 rfl)
      | cons _ _ => exact .inr (g3 (by simp)))
    exact ⟨((hm n List.mem_cons_self).part2 (by omega) h1 hr.1 hr.2).cons g1, fun e => (by cases e), fun _ => start_app (start_part (ho n List.mem_cons_self) h1)⟩
/-- Rows, one behind another, each with a sign ahead. -/
theorem dalts_list {d : Nat} {R : List Tok} (hS : StopP R) (h47 : sgnOf R ≠ [47]) : ∀ (l : List Tr), (∀ n ∈ l, MainD n) → d + dpL 1 l ≤ 24 → ∀ ts, ts.map core = cos (pcR [.sp, .sg 47, .sp] 1 false l) → AltsK d ts R l ∧ StopP (ts ++ R) := by
  intro l
  induction l with
  | nil =>
    intro _ _ ts ht
    rw [pcR_nil] at ht
    obtain rfl : ts = [] := List.map_eq_nil_iff.1 ht
    exact ⟨AltsK.stop h47, hS⟩
  | cons n l ih =>
    intro hm hd ts ht
    rw [dpL_cons] at hd
    have ht2 : ts.map core = (5, [47], 0) :: (cos (pcQ 1 n) ++ cos (pcR [.sp, .sg 47, .sp] 1 false l)) := by
      rw [ht, pcR_cons, cos_app, cos_app]
      rfl
    obtain ⟨a, t0, rfl, a1, a2, _, ht3⟩ := core_cons ht2
    obtain ⟨t1, t2, rfl, h1, h2⟩ := core_app ht3
    obtain ⟨g1, g2⟩ := ih (fun m h => hm m (List.mem_cons_of_mem _ h)) (by omega) t2 h2
    exact ⟨RowK.cons (sgn_is a1 a2) ((hm n List.mem_cons_self).row1 (by omega) h1 g2) g1, slash_row a1 a2⟩
theorem dmain_tree {n : Tr} (h : OkT n) : MainD n := by
  induction h with
  | @empty p =>
    refine dmain_one (fun d ts R hd ht _ => ?_)
    rw [dpT, if_pos rfl] at hd
    obtain ⟨a, t2, rfl, a1, a2, _, ht2⟩ := core_cons (show ts.map core = (5, [40], 0) :: [(5, [41], 0)] from ht)
    obtain ⟨b, rfl, b1, b2, _⟩ := core_one ht2
    obtain ⟨c1, c2⟩ := close_row (R := R) b1 b2
    refine ⟨by rw [List.cons_append, sgn_is a1 a2]; rfl, ChoK.within (ts := []) ⟨a1, a2⟩ ⟨b1, b2⟩ (by omega) ?_⟩
    refine RowK.cho ?_ c2
    obtain ⟨f, ms, g1, g2⟩ := PartsK.stop (d := d + 1) c1 []
    cases ms with
    | nil => exact ⟨f, _, g1, .mk (fun e => by cases e) .nil⟩
    | cons m ms => rw [Nd.trs] at g2; cases g2
  | @lit t p _ =>
    refine dmain_one (fun d ts R _ ht _ => ?_)
    obtain ⟨a, rfl, a1, a2, a3⟩ := core_one (show ts.map core = [(3, t, 0)] from ht)
    dsimp only at a1 a2 a3
    refine ⟨by rw [List.cons_append, sgn_no (by omega)]; rfl, 1, .mk 2 a.text a.cls [] a.pos, ?_, ?_⟩
    · rw [List.cons_append, pOne, if_neg (by omega), if_pos a1]
      rfl
    · rw [a2, a3]
      exact .mk (fun e => by cases e) .nil
  | @set c p =>
    refine dmain_one (fun d ts R _ ht _ => ?_)
    obtain ⟨a, rfl, a1, a2, a3⟩ := core_one (show ts.map core = [(4, [], c)] from ht)
    dsimp only at a1 a2 a3
    refine ⟨by rw [List.cons_append, sgn_no (by omega)]; rfl, 1, .mk 3 a.text a.cls [] a.pos, ?_, ?_⟩
    · rw [List.cons_append, pOne, if_neg (by omega), if_neg (by omega), if_pos a1]
      rfl
    · rw [a2, a3]
      exact .mk (fun e => by cases e) .nil
  | @any p =>
    refine dmain_one (fun d ts R _ ht _ => ?_)
    obtain ⟨a, rfl, a1, a2, a3⟩ := core_one (show ts.map core = [(5, [46], 0)] from ht)
    dsimp only at a1 a2 a3
    refine ⟨by rw [List.cons_append, sgn_is a1 a2]; rfl, 1, .mk 4 [] a.cls [] a.pos, ?_, ?_⟩
    · rw [List.cons_append, pOne, if_neg (by omega), if_neg (by omega), if_neg (by omega), if_pos ⟨a1, a2⟩]
      rfl
    · rw [a3]
      exact .mk (fun e => by cases e) .nil
  | @ref t p _ =>
    refine dmain_one (fun d ts R _ ht hk => ?_)
    obtain ⟨a, rfl, a1, a2, a3⟩ := core_one (show ts.map core = [(1, t, 0)] from ht)
    dsimp only at a1 a2 a3
    refine ⟨by rw [List.cons_append, sgn_no (by omega)]; rfl, 1, .mk 5 a.text a.cls [] a.pos, ?_, ?_⟩
    · rw [List.cons_append, pOne, if_pos a1, List.nil_append, if_neg hk]
    · rw [a2, a3]
      exact .mk (fun e => by cases e) .nil
  | @seq l p hl ho ih =>
    refine dmain_row (fun _ d ts R hd ht hS => ?_) (Nat.le_refl 1) (Nat.lt_succ_self 1)
    have hd2 : d + dpL 2 l ≤ 24 := hd
    rw [show pcT (.mk 6 [] 0 l p) = pcR [.sp] 2 true l from rfl] at ht
    obtain ⟨f, ms, g1, g2⟩ := (dparts_list hS l true ih ho hd2 ts ht).1 []
    refine ⟨f, _, g1, ?_⟩
    have hlen := g2.length
    rw [Nd.trs_length] at hlen
    rw [List.nil_append, rowN, if_neg (by omega)]
    exact same_join rfl hl g2
  | @alt l p hl ho ih =>
    have key : ∀ d ts R, d + dpT (.mk 7 [] 0 l p) ≤ 24 → ts.map core = cos (pcT (.mk 7 [] 0 l p)) → StopP R → sgnOf R ≠ [47] → ChoK d ts R (.mk 7 [] 0 l p) := by
      intro d ts R hd ht hS h47
      have hd2 : d + dpL 1 l ≤ 24 := hd
      rw [show pcT (.mk 7 [] 0 l p) = pcR [.sp, .sg 47, .sp] 1 true l from rfl] at ht
      cases l with
      | nil => simp at hl
      | cons n l =>
        rw [dpL_cons] at hd2
        have ht2 : ts.map core = cos (pcQ 1 n) ++ cos (pcR [.sp, .sg 47, .sp] 1 false l) := by
          rw [ht, pcR_cons, cos_app, cos_app]
          rfl
        obtain ⟨t1, t2, rfl, h1, h2⟩ := core_app ht2
        obtain ⟨g1, g2⟩ := dalts_list (d := d) hS h47 l (fun m h => ih m (List.mem_cons_of_mem _ h)) (by omega) t2 h2
        have hrow := (ih n List.mem_cons_self).row1 (d := d) (by omega) h1 g2
        unfold ChoK
        rw [List.append_assoc]
        obtain ⟨f, m, q1, q2⟩ := hrow
        obtain ⟨f2, ms, q3, q4⟩ := g1 [m]
        refine ⟨f + f2 + 1, _, ?_, same_join (ms := m :: ms) rfl hl (by rw [Nd.trs]; exact .cons q2 q4)⟩
        rw [pChoice, pParts_mono q1 (by omega)]
        show pAlts (f + f2) d (t2 ++ R) [m] = _
        rw [pAlts_mono q3 (by omega)]
        rfl
    have h0 : rankT (Tr.mk 7 [] 0 l p).kind = 0 := rfl
    exact ⟨fun e => by omega, fun e => by omega, fun e => by omega, fun e => by omega, key⟩
  | @post k p x hk ho ih =>
    have e : pcT (.mk k [] 0 [x] p) = pcR [] 4 true [x] ++ [.sg (postB k)] := by rcases hk with rfl | rfl | rfl <;> (rw [pcT]; rfl)
    have ed : dpT (.mk k [] 0 [x] p) = dpQ 4 x := by rw [← dpL_one]; rcases hk with rfl | rfl | rfl <;> (rw [dpT]; rfl)
    refine dmain_suf (fun d ts R hd ht _ _ => ?_) (by rcases hk with rfl | rfl | rfl <;> rfl)
    rw [ed] at hd
    rw [e, pcR_cons, pcR_nil, List.append_nil, cos_app] at ht
    obtain ⟨t1, t2, rfl, h1, h2⟩ := core_app ht
    obtain ⟨s, rfl, s1, s2, _⟩ := core_one (show t2.map core = [(5, [postB k], 0)] from h2)
    dsimp only at s1 s2
    have hs : sgnOf (s :: R) = [postB k] := sgn_is s1 s2
    have hf : sufK (sgnOf (s :: R)) ≠ 0 ∧ (k : Int) = (sufK (sgnOf (s :: R)) : Nat) := by rw [hs]; rcases hk with rfl | rfl | rfl <;> exact ⟨by decide, rfl⟩
    have e2 : t1 ++ [s] ++ R = t1 ++ s :: R := by simp
    obtain ⟨q0, q⟩ := ih.one4 (d := d) (R := s :: R) hd h1 (show s.kind ≠ 2 by omega)
    refine ⟨by rw [e2]; exact q0, ?_⟩
    unfold SufK
    rw [e2]
    obtain ⟨f, m, q1, q2⟩ := q
    refine ⟨f, m, s :: R, q1, ?_, by rw [if_neg hf.1]; rfl⟩
    rw [signed, if_neg hf.1, Nd.tr, ← hf.2]
    exact .mk (fun e => by cases e) (trs_one q2)
  | @pre k p x hk ho ih =>
    have e : pcT (.mk k [] 0 [x] p) = .sg (preB k) :: pcR [] 3 true [x] := by rcases hk with rfl | rfl <;> (rw [pcT]; rfl)
    have ed : dpT (.mk k [] 0 [x] p) = dpQ 3 x := by rw [← dpL_one]; rcases hk with rfl | rfl <;> (rw [dpT]; rfl)
    refine dmain_part (fun d ts R hd ht hk2 hsf => ?_) (by rcases hk with rfl | rfl <;> exact Nat.le_refl 2) (by rcases hk with rfl | rfl <;> exact Nat.lt_succ_self 2)
    rw [ed] at hd
    rw [e, pcR_cons, pcR_nil, List.append_nil] at ht
    obtain ⟨s, t1, rfl, s1, s2, _, h1⟩ := core_cons (show ts.map core = (5, [preB k], 0) :: cos (pcQ 3 x) from ht)
    dsimp only at s1 s2
    have hs : sgnOf (s :: (t1 ++ R)) = [preB k] := sgn_is s1 s2
    have hf : preK (sgnOf (s :: (t1 ++ R))) ≠ 0 ∧ (k : Int) = (preK (sgnOf (s :: (t1 ++ R))) : Nat) := by rw [hs]; rcases hk with rfl | rfl <;> exact ⟨by decide, rfl⟩
    obtain ⟨_, q⟩ := ih.suf3 (d := d) (R := R) hd h1 hk2 hsf
    unfold PartK
    rw [List.cons_append]
    obtain ⟨f, m, R1, q1, q2, q3⟩ := q
    have := part_some (f := f) (d := d) (rs := s :: (t1 ++ R)) (rs2 := R1) (n := m) (by rw [if_neg hf.1]; exact q1)
    rw [q3] at this
    refine ⟨f + 1, _, this, ?_⟩
    rw [signed, if_neg hf.1, Nd.tr, ← hf.2]
    exact .mk (fun e => by cases e) (trs_one q2)
end Go.Proofs.YtjlcoldnhbkcgaaGreatDoor
namespace Go.Proofs.YtjlcoldnhbkcgaaGreatDoor
open Go.RowKit

mutual
/-- Is an Empty somewhere within? -/
def hasE : Tr → Bool
  | .mk k _ _ l _ => k == 1 || hasL l
def hasL : List Tr → Bool
  | [] => false
  | n :: l => hasE n || hasL l
end
theorem hasE_subs {k p : Int} {t : List UInt8} {c : BitVec 256} {l : List Tr} (h : hasE (.mk k t c l p) = false) : k ≠ 1 ∧ hasL l = false := by
  rw [hasE, Bool.or_eq_false_iff] at h
  exact ⟨fun e => by rw [e] at h; simp at h, h.2⟩
theorem hasL_mem {l : List Nd} (h : hasL (Nd.trs l) = false) : ∀ x ∈ l, hasE x.tr = false := by
  induction l with
  | nil => intro x hx; cases hx
  | cons n l ih =>
    rw [Nd.trs, hasL, Bool.or_eq_false_iff] at h
    intro x hx
    rcases List.mem_cons.1 hx with rfl | hx
    · exact h.1
    · exact ih h.2 x hx
theorem dp_le (r : Nat) (n : Tr) : dpT n ≤ dpQ r n ∧ dpQ r n ≤ dpT n + 1 := by unfold dpQ; split <;> omega
theorem dpQ_mono {r r' : Nat} (h : r ≤ r') (n : Tr) : dpQ r n ≤ dpQ r' n := by
  unfold dpQ
  split
  · split <;> omega
  · rw [if_neg (by omega)]; exact Nat.le_refl _
theorem dpQ_in {r : Nat} {n : Tr} (h : r ≤ rankT n.kind) : dpQ r n = dpT n := by rw [dpQ, if_pos h]
theorem dpL_le {d r : Nat} {l : List Nd} (hd : d ≤ 24) (h : ∀ x ∈ l, d + dpQ r x.tr ≤ 24) : d + dpL r (Nd.trs l) ≤ 24 := by
  induction l with
  | nil => rw [Nd.trs, dpL]; omega
  | cons n l ih =>
    have h1 := h n List.mem_cons_self
    have h2 := ih (fun x hx => h x (List.mem_cons_of_mem _ hx))
    rw [Nd.trs, dpL_cons]
    omega
theorem okT_trs {l : List Nd} (h : ∀ x ∈ l, OkT x.tr) : ∀ n ∈ Nd.trs l, OkT n := by
  induction l with
  | nil => intro n hn; rw [Nd.trs] at hn; cases hn
  | cons x l ih =>
    intro n hn
    rw [Nd.trs] at hn
    rcases List.mem_cons.1 hn with rfl | hn
    · exact h x List.mem_cons_self
    · exact ih (fun y hy => h y (List.mem_cons_of_mem _ hy)) n hn
def Toks (r : List Tok) : Prop := ∀ t ∈ r, TokOk t
theorem Toks.tail {r : List Tok} (h : Toks r) : Toks r.tail := fun t ht => h t (List.mem_of_mem_tail ht)
/-- What is known of a tree read at a depth. -/
def Rd (b : Nat → Tr → Nat) (r d : Nat) (n : Nd) : Prop := OkT n.tr ∧ (hasE n.tr = false → d + b r n.tr ≤ 24)
theorem join6 {d : Nat} {l : List Nd} (hd : d ≤ 24) (h0 : l.length ≠ 0) (h : ∀ x ∈ l, OkT x.tr ∧ (hasE x.tr = false → d + dpQ 2 x.tr ≤ 24)) : OkT (joinN 6 l).tr ∧ (hasE (joinN 6 l).tr = false → d + dpQ 1 (joinN 6 l).tr ≤ 24) := by
  match l, h0, h with
  | [x], _, h =>
    obtain ⟨h1, h2⟩ := h x List.mem_cons_self
    exact ⟨h1, fun e => Nat.le_trans (Nat.add_le_add_left (dpQ_mono (by decide) _) d) (h2 e)⟩
  | x :: y :: l, _, h =>
    rw [joinN, Nd.tr]
    refine ⟨.seq (by rw [Nd.trs_length]; simp) (okT_trs (fun z hz => (h z hz).1)), fun e => ?_⟩
    rw [dpQ_in (Nat.le_refl 1)]
    have hl := hasL_mem (hasE_subs e).2
    exact dpL_le (r := 2) hd (fun z hz => (h z hz).2 (hl z hz))
theorem join7 {d : Nat} {l : List Nd} (hd : d ≤ 24) (h0 : l.length ≠ 0) (h : ∀ x ∈ l, OkT x.tr ∧ (hasE x.tr = false → d + dpQ 1 x.tr ≤ 24)) : OkT (joinN 7 l).tr ∧ (hasE (joinN 7 l).tr = false → d + dpT (joinN 7 l).tr ≤ 24) := by
  match l, h0, h with
  | [x], _, h =>
    obtain ⟨h1, h2⟩ := h x List.mem_cons_self
    exact ⟨h1, fun e => Nat.le_trans (Nat.add_le_add_left (dp_le 1 _).1 d) (h2 e)⟩
  | x :: y :: l, _, h =>
    rw [joinN, Nd.tr]
    refine ⟨.alt (by rw [Nd.trs_length]; simp) (okT_trs (fun z hz => (h z hz).1)), fun e => ?_⟩
    have hl := hasL_mem (hasE_subs e).2
    exact dpL_le (r := 1) hd (fun z hz => (h z hz).2 (hl z hz))
theorem dp_sign {k p : Nat} {n : Nd} (hk : k = 8 ∨ k = 9 ∨ k = 10 ∨ k = 11 ∨ k = 12) : dpT (Nd.mk k [] 0 [n] p).tr = dpQ (if k = 11 ∨ k = 12 then 3 else 4) n.tr ∧ rankT (Nd.mk k [] 0 [n] p).tr.kind = (if k = 11 ∨ k = 12 then 2 else 3) ∧ (hasE (Nd.mk k [] 0 [n] p).tr = false → hasE n.tr = false) := by
  refine ⟨?_, ?_, fun e => ?_⟩
  · rw [Nd.tr, Nd.trs, Nd.trs, ← dpL_one]
    rcases hk with rfl | rfl | rfl | rfl | rfl <;> (rw [dpT]; rfl)
  · rw [Nd.tr]
    rcases hk with rfl | rfl | rfl | rfl | rfl <;> rfl
  · rw [Nd.tr] at e
    exact hasL_mem (hasE_subs e).2 n List.mem_cons_self
theorem sufK_is (s : List UInt8) : sufK s = 0 ∨ sufK s = 8 ∨ sufK s = 9 ∨ sufK s = 10 := by
  unfold sufK
  split
  · omega
  split
  · omega
  split <;> omega
theorem preK_is (s : List UInt8) : preK s = 0 ∨ preK s = 11 ∨ preK s = 12 := by
  unfold preK
  split
  · omega
  split <;> omega
structure Deep (f : Nat) : Prop where
  choice : ∀ {d : Nat} {ts r : List Tok} {n : Nd}, d ≤ 24 → Toks ts → pChoice f d ts = some (.ok n r) → Toks r ∧ OkT n.tr ∧ (hasE n.tr = false → d + dpT n.tr ≤ 24)
  alts : ∀ {d : Nat} {ts r : List Tok} {n : Nd} {l : List Nd}, d ≤ 24 → Toks ts → l.length ≠ 0 → (∀ x ∈ l, OkT x.tr ∧ (hasE x.tr = false → d + dpQ 1 x.tr ≤ 24)) → pAlts f d ts l = some (.ok n r) → Toks r ∧ OkT n.tr ∧ (hasE n.tr = false → d + dpT n.tr ≤ 24)
  parts : ∀ {d : Nat} {ts r : List Tok} {n : Nd} {l : List Nd}, d ≤ 24 → Toks ts → (∀ x ∈ l, OkT x.tr ∧ (hasE x.tr = false → d + dpQ 2 x.tr ≤ 24)) → pParts f d ts l = some (.ok n r) → Toks r ∧ OkT n.tr ∧ (hasE n.tr = false → d + dpQ 1 n.tr ≤ 24)
  part : ∀ {d : Nat} {ts r : List Tok} {n : Option Nd}, d ≤ 24 → Toks ts → pPart f d ts = some (.ok n r) → Toks r ∧ ∀ m, n = some m → OkT m.tr ∧ (hasE m.tr = false → d + dpQ 2 m.tr ≤ 24)
  one : ∀ {d : Nat} {ts r : List Tok} {n : Option Nd}, d ≤ 24 → Toks ts → pOne f d ts = some (.ok n r) → Toks r ∧ ∀ m, n = some m → OkT m.tr ∧ (hasE m.tr = false → d + dpQ 4 m.tr ≤ 24)
theorem snocs {Q : Nd → Prop} {l : List Nd} {n : Nd} (h : ∀ x ∈ l, Q x) (hn : Q n) : ∀ x ∈ l ++ [n], Q x := by
  intro x hx
  rcases List.mem_append.1 hx with hx | hx
  · exact h x hx
  · rw [List.mem_singleton.1 hx]; exact hn
theorem deep_all : ∀ f, Deep f := by
  intro f
  induction f with
  | zero => exact ⟨fun _ _ h => by simp [pChoice] at h, fun _ _ _ _ h => by simp [pAlts] at h, fun _ _ _ h => by simp [pParts] at h, fun _ _ h => by simp [pPart] at h, fun _ _ h => by simp [pOne] at h⟩
  | succ f ih =>
    refine ⟨fun {d ts r n} hd ht h => ?_, fun {d ts r n l} hd ht h0 hl h => ?_, fun {d ts r n l} hd ht hl h => ?_, fun {d ts r n} hd ht h => ?_, fun {d ts r n} hd ht h => ?_⟩
    · rw [pChoice] at h
      cases e1 : pParts f d ts [] with
      | none => rw [e1] at h; cases h
      | some y =>
        rw [e1] at h
        cases y with
        | err c x => cases h
        | ok m r1 =>
          obtain ⟨k1, k2⟩ := ih.parts hd ht (fun x hx => by cases hx) e1
          exact ih.alts hd k1 (by simp) (fun x hx => by rw [List.mem_singleton.1 hx]; exact k2) h
    · rw [pAlts] at h
      split at h
      · cases e1 : pParts f d ts.tail [] with
        | none => rw [e1] at h; cases h
        | some y =>
          rw [e1] at h
          cases y with
          | err c x => cases h
          | ok m r1 =>
            obtain ⟨k1, k2⟩ := ih.parts hd ht.tail (fun x hx => by cases hx) e1
            exact ih.alts hd k1 (by simp) (snocs hl k2) h
      · have e2 := Option.some.inj h
        injection e2 with e3 e4
        subst e3 e4
        exact ⟨ht, join7 hd h0 hl⟩
    · rw [pParts] at h
      cases e1 : pPart f d ts with
      | none => rw [e1] at h; cases h
      | some y =>
        rw [e1] at h
        cases y with
        | err c x => cases h
        | ok m r1 =>
          obtain ⟨k1, k2⟩ := ih.part hd ht e1
          cases m with
          | some m => exact ih.parts hd k1 (snocs hl (k2 m rfl)) h
          | none =>
            simp only at h
            split at h
            · have e2 := Option.some.inj h
              injection e2 with e3 e4
              subst e3 e4
              refine ⟨k1, ?_, fun e => ?_⟩
              · rw [Nd.tr, Nd.trs]; exact .empty
              · rw [Nd.tr] at e; exact absurd rfl (hasE_subs e).1
            · next h0 =>
              have e2 := Option.some.inj h
              injection e2 with e3 e4
              subst e3 e4
              exact ⟨k1, join6 hd h0 hl⟩
    · rw [pPart] at h
      have ht2 : Toks (if preK (sgnOf ts) = 0 then ts else ts.tail) := by split; exact ht; exact ht.tail
      cases e1 : pOne f d (if preK (sgnOf ts) = 0 then ts else ts.tail) with
      | none => rw [e1] at h; cases h
      | some y =>
        rw [e1] at h
        cases y with
        | err c x => cases h
        | ok m r1 =>
          obtain ⟨k1, k2⟩ := ih.one hd ht2 e1
          cases m with
          | none =>
            simp only at h
            split at h
            · have e2 := Option.some.inj h
              injection e2 with e3 e4
              subst e3 e4
              exact ⟨k1, (fun m e => by cases e)⟩
            · cases h
          | some m =>
            obtain ⟨o1, o2⟩ := k2 m rfl
            have e2 := Option.some.inj h
            injection e2 with e3 e4
            subst e3 e4
            refine ⟨by split; exact k1; exact k1.tail, fun m2 e => ?_⟩
            have e := Option.some.inj e
            subst e
            obtain ⟨n1, hn1⟩ : ∃ n1, n1 = (if sufK (sgnOf r1) = 0 then m else .mk (sufK (sgnOf r1)) [] 0 [m] m.pos) := ⟨_, rfl⟩
            rw [← hn1]
            have q1 : OkT n1.tr ∧ (hasE n1.tr = false → d + dpQ 3 n1.tr ≤ 24) := by
              rw [hn1]
              split
              · exact ⟨o1, fun e => Nat.le_trans (Nat.add_le_add_left (dpQ_mono (by decide) _) d) (o2 e)⟩
              · next hs =>
                have hk : sufK (sgnOf r1) = 8 ∨ sufK (sgnOf r1) = 9 ∨ sufK (sgnOf r1) = 10 := (sufK_is _).resolve_left hs
                obtain ⟨g1, g2, g3⟩ := dp_sign (k := sufK (sgnOf r1)) (p := m.pos) (n := m) (by omega)
                rw [if_neg (by omega)] at g1 g2
                refine ⟨?_, fun e => ?_⟩
                · rw [Nd.tr, Nd.trs, Nd.trs]
                  exact .post (by omega) o1
                · rw [dpQ_in (by rw [g2]; exact Nat.le_refl 3), g1]
                  exact o2 (g3 e)
            split
            · exact ⟨q1.1, fun e => Nat.le_trans (Nat.add_le_add_left (dpQ_mono (by decide) _) d) (q1.2 e)⟩
            · next hs =>
              have hk : preK (sgnOf ts) = 11 ∨ preK (sgnOf ts) = 12 := (preK_is _).resolve_left hs
              obtain ⟨g1, g2, g3⟩ := dp_sign (k := preK (sgnOf ts)) (p := posT ts) (n := n1) (by omega)
              rw [if_pos (by omega)] at g1 g2
              refine ⟨?_, fun e => ?_⟩
              · rw [Nd.tr, Nd.trs, Nd.trs]
                exact .pre (by omega) q1.1
              · rw [dpQ_in (by rw [g2]; exact Nat.le_refl 2), g1]
                exact q1.2 (g3 e)
    · cases ts with
      | nil => rw [pOne] at h; cases h
      | cons t rs =>
        have htok := ht t List.mem_cons_self
        have hrs : Toks rs := fun u hu => ht u (List.mem_cons_of_mem _ hu)
        rw [pOne] at h
        split at h
        · next k1 =>
          split at h
          · have e2 := Option.some.inj h
            injection e2 with e3 e4
            subst e3 e4
            exact ⟨ht, (fun m e => by cases e)⟩
          · have e2 := Option.some.inj h
            injection e2 with e3 e4
            subst e3 e4
            refine ⟨hrs, fun m e => ?_⟩
            have e := Option.some.inj e
            subst e
            rw [Nd.tr, Nd.trs, htok.cls (by omega)]
            exact ⟨.ref (htok.name k1), fun _ => hd⟩
        next k1 =>
        split at h
        · next k3 =>
          have e2 := Option.some.inj h
          injection e2 with e3 e4
          subst e3 e4
          refine ⟨hrs, fun m e => ?_⟩
          have e := Option.some.inj e
          subst e
          rw [Nd.tr, Nd.trs, htok.cls (by omega)]
          exact ⟨.lit (htok.lit k3), fun _ => hd⟩
        next k3 =>
        split at h
        · next k4 =>
          have e2 := Option.some.inj h
          injection e2 with e3 e4
          subst e3 e4
          refine ⟨hrs, fun m e => ?_⟩
          have e := Option.some.inj e
          subst e
          rw [Nd.tr, Nd.trs, htok.set k4]
          exact ⟨.set, fun _ => hd⟩
        next k4 =>
        split at h
        · next k5 =>
          have e2 := Option.some.inj h
          injection e2 with e3 e4
          subst e3 e4
          refine ⟨hrs, fun m e => ?_⟩
          have e := Option.some.inj e
          subst e
          rw [Nd.tr, Nd.trs, htok.cls (by omega)]
          exact ⟨.any, fun _ => hd⟩
        next k5 =>
        split at h
        · split at h
          · cases h
          next h24 =>
          cases e1 : pChoice f (d + 1) rs with
          | none => rw [e1] at h; cases h
          | some y =>
            rw [e1] at h
            cases y with
            | err c x => cases h
            | ok m r1 =>
              obtain ⟨g1, g2, g3⟩ := ih.choice (d := d + 1) (by omega) hrs e1
              simp only at h
              split at h
              · have e2 := Option.some.inj h
                injection e2 with e3 e4
                subst e3 e4
                refine ⟨g1.tail, fun m2 e => ?_⟩
                have e := Option.some.inj e
                subst e
                refine ⟨g2, fun e => ?_⟩
                have := g3 e
                have := (dp_le 4 m.tr).2
                omega
              · cases h
        · have e2 := Option.some.inj h
          injection e2 with e3 e4
          subst e3 e4
          exact ⟨ht, (fun m e => by cases e)⟩
/-- The rules that are read. -/
def RuOk (u : Ru) : Prop := OkR u.rr ∧ (hasE u.body.tr = false → dpT u.body.tr ≤ 24)
theorem rules_deep : ∀ (f : Nat) {ts r : List Tok} {acc g : List Ru}, Toks ts → (∀ u ∈ acc, RuOk u) → pRules f ts acc = some (.ok g r) → ∀ u ∈ g, RuOk u := by
  intro f
  induction f with
  | zero => intro ts r acc g _ _ h; cases h
  | succ f ih =>
    intro ts r acc g ht ha h
    rw [pRules] at h
    split at h
    · have e2 := Option.some.inj h
      injection e2 with e3 _
      subst e3
      exact ha
    split at h
    · cases h
    split at h
    · cases h
    next k1 =>
    split at h
    · cases h
    cases e1 : pChoice f 0 ts.tail.tail with
    | none => rw [e1] at h; cases h
    | some y =>
      rw [e1] at h
      cases y with
      | err c x => cases h
      | ok n r1 =>
        obtain ⟨g1, g2, g3⟩ := (deep_all f).choice (Nat.zero_le _) ht.tail.tail e1
        refine ih g1 (fun u hu => ?_) h
        rcases List.mem_append.1 hu with hu | hu
        · exact ha u hu
        · rw [List.mem_singleton.1 hu]
          refine ⟨⟨?_, g2⟩, fun e => (by have h9 := g3 e; rw [Nat.zero_add] at h9; exact h9)⟩
          cases ts with
          | nil => exact absurd (fun e => by cases e) k1
          | cons t rs => exact (ht t List.mem_cons_self).name (by simpa [kindT] using k1)
theorem reads_deep {s : List UInt8} {g : List Ru} (h : Reads s (.inr g)) : ∀ u ∈ g, RuOk u := by
  unfold Reads at h
  cases e1 : lexed s with
  | inl er => rw [e1] at h; cases h
  | inr l =>
    rw [e1] at h
    obtain ⟨f, h⟩ := h
    rcases h with ⟨_, _, _, e⟩ | ⟨g', r, q, e⟩
    · cases e
    · injection e with e
      subst e
      exact rules_deep f (lexed_ok2 e1) (fun u hu => by cases hu) q
end Go.Proofs.YtjlcoldnhbkcgaaGreatDoor
