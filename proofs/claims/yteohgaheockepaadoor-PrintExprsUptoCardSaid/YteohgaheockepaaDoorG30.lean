/- The tokens of a tree's text are read as the tree, if not too many parentheses are open: plain. | The tokens of a tree's text are read as the tree, if not too many parentheses are open: by its kinds: plain. | A grammar's text is read as the grammar, if not too many parentheses are open: plain. | A grammar that was read, as any grammar in memory. | A class among the arguments of a row: it is some class. -/
import Derived.Test.YteohgaheockepaaDoorG29
import Derived.Test.YteohgaheockepaaDoorG6
import Derived.Test.YteohgaheockepaaDoorRows
import Derived.Test.YteohgaheockepaaDoorG0
import Derived.ProofKit
import Derived.OpenShut
import Derived.Lib.SmallJoins
namespace Go.Proofs.YteohgaheockepaaDoor
open Go.RowKit

theorem pOne_mono {f f' d : Nat} {rs : List Tok} {r : PR (Option Nd)} (h : pOne f d rs = some r) (hf : f ≤ f') : pOne f' d rs = some r := by
  induction hf with
  | refl => exact h
  | step _ ih => exact (p_mono1 _).2.2.2.2 _ _ _ ih
/-- Tokens at which a row stops. -/
structure StopP (S : List Tok) : Prop where
  pre : preK (sgnOf S) = 0
  suf : sufK (sgnOf S) = 0
  arrow : kindT S ≠ 2
  one : ∀ f d, pOne (f + 1) d S = some (.ok none S)
theorem StopT.row {S : List Tok} (h : StopT S) : StopP S := ⟨h.pre, h.suf, h.arrow, h.one⟩
def OneR (d : Nat) (ts R : List Tok) (n : Tr) : Prop := (∃ f m, pOne f d (ts ++ R) = some (.ok (some m) R) ∧ SameT false n m.tr) ∨ ∃ f x, pOne f d (ts ++ R) = some (.err 2 x)
def SufR (d : Nat) (ts R : List Tok) (n : Tr) : Prop := (∃ f m R1, pOne f d (ts ++ R) = some (.ok (some m) R1) ∧ SameT false n (signed (sufK (sgnOf R1)) m m.pos).tr ∧ (if sufK (sgnOf R1) = 0 then R1 else R1.tail) = R) ∨ ∃ f x, pOne f d (ts ++ R) = some (.err 2 x)
def PartR (d : Nat) (ts R : List Tok) (n : Tr) : Prop := (∃ f m, pPart f d (ts ++ R) = some (.ok (some m) R) ∧ SameT false n m.tr) ∨ ∃ f x, pPart f d (ts ++ R) = some (.err 2 x)
def RowR (d : Nat) (ts R : List Tok) (n : Tr) : Prop := (∃ f m, pParts f d (ts ++ R) [] = some (.ok m R) ∧ SameT false n m.tr) ∨ ∃ f x, pParts f d (ts ++ R) [] = some (.err 2 x)
def ChoR (d : Nat) (ts R : List Tok) (n : Tr) : Prop := (∃ f m, pChoice f d (ts ++ R) = some (.ok m R) ∧ SameT false n m.tr) ∨ ∃ f x, pChoice f d (ts ++ R) = some (.err 2 x)
/-- A row's parts, some read already. -/
def rowN (l : List Nd) (R : List Tok) : Nd := if l.length = 0 then .mk 1 [] 0 [] (posT R) else joinN 6 l
def PartsR (d : Nat) (ts R : List Tok) (ns : List Tr) : Prop := ∀ acc : List Nd, (∃ f ms, pParts f d (ts ++ R) acc = some (.ok (rowN (acc ++ ms) R) R) ∧ SameU false ns (Nd.trs ms)) ∨ ∃ f x, pParts f d (ts ++ R) acc = some (.err 2 x)
def AltsR (d : Nat) (ts R : List Tok) (ns : List Tr) : Prop := ∀ acc : List Nd, (∃ f ms, pAlts f d (ts ++ R) acc = some (.ok (joinN 7 (acc ++ ms)) R) ∧ SameU false ns (Nd.trs ms)) ∨ ∃ f x, pAlts f d (ts ++ R) acc = some (.err 2 x)
theorem stop_part {d f : Nat} {R : List Tok} (h : StopP R) : pPart (f + 2) d R = some (.ok none R) := by
  rw [pPart, if_pos h.pre, h.one]
  simp only
  rw [if_pos h.pre]
theorem OneR.suf {d : Nat} {ts R : List Tok} {n : Tr} (h : OneR d ts R n) (hR : sufK (sgnOf R) = 0) : SufR d ts R n := by
  rcases h with ⟨f, m, h1, h2⟩ | h
  · exact .inl ⟨f, m, R, h1, by rw [hR]; exact h2, by rw [if_pos hR]⟩
  · exact .inr h
theorem SufR.part {d : Nat} {ts R : List Tok} {n : Tr} (h : SufR d ts R n) (hp : preK (sgnOf (ts ++ R)) = 0) : PartR d ts R n := by
  rcases h with ⟨f, m, R1, h1, h2, h3⟩ | ⟨f, x, h⟩
  · have := part_some (f := f) (d := d) (rs := ts ++ R) (rs2 := R1) (n := m) (by rw [if_pos hp]; exact h1)
    rw [hp, h3] at this
    exact .inl ⟨f + 1, _, this, by rw [signed, if_pos rfl]; exact h2⟩
  · exact .inr ⟨f + 1, x, part_err (by rw [if_pos hp]; exact h)⟩
theorem PartR.cons {d : Nat} {t1 t2 R : List Tok} {n : Tr} {ns : List Tr} (h : PartR d t1 (t2 ++ R) n) (h2 : PartsR d t2 R ns) : PartsR d (t1 ++ t2) R (n :: ns) := by
  intro acc
  rw [List.append_assoc]
  rcases h with ⟨f, m, g1, g2⟩ | ⟨f, x, h⟩
  · rcases h2 (acc ++ [m]) with ⟨f2, ms, g3, g4⟩ | ⟨f2, x, g3⟩
    · refine .inl ⟨f + f2 + 1, m :: ms, ?_, .cons g2 g4⟩
      rw [pParts, pPart_mono g1 (by omega)]
      show pParts (f + f2) d (t2 ++ R) (acc ++ [m]) = _
      rw [pParts_mono g3 (by omega)]
      simp
    · refine .inr ⟨f + f2 + 1, x, ?_⟩
      rw [pParts, pPart_mono g1 (by omega)]
      exact pParts_mono g3 (by omega)
  · exact .inr ⟨f + 1, x, by rw [pParts, h]⟩
theorem PartsR.stop {d : Nat} {R : List Tok} (h : StopP R) : PartsR d [] R [] := fun acc => .inl ⟨3, [], by
  rw [List.nil_append, pParts, stop_part h, List.append_nil]
  rfl, .nil⟩
theorem PartR.row {d : Nat} {ts R : List Tok} {n : Tr} (h : PartR d ts R n) (hS : StopP R) : RowR d ts R n := by
  have h2 := (PartR.cons (t2 := []) h (PartsR.stop hS)) []
  rw [List.append_nil] at h2
  rcases h2 with ⟨f, ms, g1, g2⟩ | ⟨f, x, g1⟩
  · cases ms with
    | nil => cases g2
    | cons m ms =>
      cases g2 with
      | cons g2 g3 =>
        cases ms with
        | nil => exact .inl ⟨f, m, g1, g2⟩
        | cons _ _ => cases g3
  · exact .inr ⟨f, x, g1⟩
theorem RowR.cons {d : Nat} {s : Tok} {t1 t2 R : List Tok} {n : Tr} {ns : List Tr} (hs : sgnOf [s] = [47]) (h : RowR d t1 (t2 ++ R) n) (h2 : AltsR d t2 R ns) : AltsR d (s :: (t1 ++ t2)) R (n :: ns) := by
  intro acc
  have hs' : sgnOf (s :: (t1 ++ t2) ++ R) = [47] := hs
  have ht : (s :: (t1 ++ t2) ++ R).tail = t1 ++ (t2 ++ R) := by simp
  rcases h with ⟨f, m, g1, g2⟩ | ⟨f, x, h⟩
  · rcases h2 (acc ++ [m]) with ⟨f2, ms, g3, g4⟩ | ⟨f2, x, g3⟩
    · refine .inl ⟨f + f2 + 1, m :: ms, ?_, .cons g2 g4⟩
      rw [pAlts, if_pos hs', ht, pParts_mono g1 (by omega)]
      show pAlts (f + f2) d (t2 ++ R) (acc ++ [m]) = _
      rw [pAlts_mono g3 (by omega)]
      simp
    · refine .inr ⟨f + f2 + 1, x, ?_⟩
      rw [pAlts, if_pos hs', ht, pParts_mono g1 (by omega)]
      exact pAlts_mono g3 (by omega)
  · exact .inr ⟨f + 1, x, by rw [pAlts, if_pos hs', ht, h]⟩
theorem AltsR.stop {d : Nat} {R : List Tok} (h : sgnOf R ≠ [47]) : AltsR d [] R [] := fun acc => .inl ⟨1, [], by
  rw [List.nil_append, pAlts, if_neg h, List.append_nil], .nil⟩
theorem RowR.cho {d : Nat} {ts R : List Tok} {n : Tr} (h : RowR d ts R n) (hS : sgnOf R ≠ [47]) : ChoR d ts R n := by
  rcases h with ⟨f, m, g1, g2⟩ | ⟨f, x, h⟩
  · refine .inl ⟨f + 2, m, ?_, g2⟩
    rw [pChoice, pParts_mono g1 (by omega)]
    show pAlts (f + 1) d R [m] = _
    rw [pAlts, if_neg hS]
    rfl
  · exact .inr ⟨f + 1, x, by rw [pChoice, h]⟩
theorem core_one {ts : List Tok} {c : Nat × List UInt8 × BitVec 256} (h : ts.map core = [c]) : ∃ t, ts = [t] ∧ t.kind = c.1 ∧ t.text = c.2.1 ∧ t.cls = c.2.2 := by
  match ts, h with
  | [t], h =>
    simp only [List.map_cons, List.map_nil, List.cons.injEq, and_true] at h
    subst h
    exact ⟨t, rfl, rfl, rfl, rfl⟩
theorem core_app {ts : List Tok} {a b : List (Nat × List UInt8 × BitVec 256)} (h : ts.map core = a ++ b) : ∃ t1 t2, ts = t1 ++ t2 ∧ t1.map core = a ∧ t2.map core = b := List.map_eq_append_iff.1 h
theorem core_cons {ts : List Tok} {c : Nat × List UInt8 × BitVec 256} {b : List (Nat × List UInt8 × BitVec 256)} (h : ts.map core = c :: b) : ∃ t t2, ts = t :: t2 ∧ t.kind = c.1 ∧ t.text = c.2.1 ∧ t.cls = c.2.2 ∧ t2.map core = b := by
  cases ts with
  | nil => cases h
  | cons t t2 =>
    rw [List.map_cons] at h
    injection h with h1 h2
    subst h1
    exact ⟨t, t2, rfl, rfl, rfl, rfl, h2⟩
theorem sgn_is {t : Tok} {b : List UInt8} {R : List Tok} (hk : t.kind = 5) (ht : t.text = b) : sgnOf (t :: R) = b := by rw [sgnOf, if_pos hk, ht]
theorem sgn_no {t : Tok} {R : List Tok} (hk : t.kind ≠ 5) : sgnOf (t :: R) = [] := by rw [sgnOf, if_neg hk]
theorem close_row {t : Tok} {R : List Tok} (hk : t.kind = 5) (ht : t.text = [41]) : StopP (t :: R) ∧ sgnOf (t :: R) ≠ [47] := by
  have hs : sgnOf (t :: R) = [41] := sgn_is hk ht
  refine ⟨⟨by rw [hs]; rfl, by rw [hs]; rfl, by show t.kind ≠ 2; omega, fun f d => ?_⟩, by rw [hs]; decide⟩
  rw [pOne, if_neg (by omega), if_neg (by omega), if_neg (by omega), if_neg (by rw [ht]; simp), if_neg (by rw [ht]; simp)]
theorem slash_row {t : Tok} {R : List Tok} (hk : t.kind = 5) (ht : t.text = [47]) : StopP (t :: R) := by
  have hs : sgnOf (t :: R) = [47] := sgn_is hk ht
  refine ⟨by rw [hs]; rfl, by rw [hs]; rfl, by show t.kind ≠ 2; omega, fun f d => ?_⟩
  rw [pOne, if_neg (by omega), if_neg (by omega), if_neg (by omega), if_neg (by rw [ht]; simp), if_neg (by rw [ht]; simp)]
/-- A choice in parentheses. -/
theorem ChoR.within {d : Nat} {a b : Tok} {ts R : List Tok} {n : Tr} (ha : a.kind = 5 ∧ a.text = [40]) (hb : b.kind = 5 ∧ b.text = [41]) (h : d ≠ 24 → ChoR (d + 1) ts (b :: R) n) : OneR d (a :: (ts ++ [b])) R n := by
  have e : a :: (ts ++ [b]) ++ R = a :: (ts ++ b :: R) := by simp
  unfold OneR
  rw [e]
  have k1 : ¬ a.kind = 1 := by omega
  have k3 : ¬ a.kind = 3 := by omega
  have k4 : ¬ a.kind = 4 := by omega
  have k46 : ¬ (a.kind = 5 ∧ a.text = [46]) := by rw [ha.2]; simp
  by_cases hd : d = 24
  · exact .inr ⟨1, a.pos, by rw [pOne, if_neg k1, if_neg k3, if_neg k4, if_neg k46, if_pos ha, if_pos hd]⟩
  · rcases h hd with ⟨f, m, g1, g2⟩ | ⟨f, x, g⟩
    · refine .inl ⟨f + 1, m, ?_, g2⟩
      rw [pOne, if_neg k1, if_neg k3, if_neg k4, if_neg k46, if_pos ha, if_neg hd, g1]
      simp only
      rw [if_pos (sgn_is hb.1 hb.2)]
      rfl
    · exact .inr ⟨f + 1, x, by rw [pOne, if_neg k1, if_neg k3, if_neg k4, if_neg k46, if_pos ha, if_neg hd, g]⟩
/-- What is shown of a tree. -/
structure MainR (n : Tr) : Prop where
  one : 4 ≤ rankT n.kind → ∀ d ts R, ts.map core = cos (pcT n) → kindT R ≠ 2 → preK (sgnOf (ts ++ R)) = 0 ∧ OneR d ts R n
  suf : 3 ≤ rankT n.kind → ∀ d ts R, ts.map core = cos (pcT n) → kindT R ≠ 2 → sufK (sgnOf R) = 0 → preK (sgnOf (ts ++ R)) = 0 ∧ SufR d ts R n
  part : 2 ≤ rankT n.kind → ∀ d ts R, ts.map core = cos (pcT n) → kindT R ≠ 2 → sufK (sgnOf R) = 0 → PartR d ts R n
  row : 1 ≤ rankT n.kind → ∀ d ts R, ts.map core = cos (pcT n) → StopP R → RowR d ts R n
  cho : ∀ d ts R, ts.map core = cos (pcT n) → StopP R → sgnOf R ≠ [47] → ChoR d ts R n
theorem main_row {n : Tr} (h : 1 ≤ rankT n.kind → ∀ d ts R, ts.map core = cos (pcT n) → StopP R → RowR d ts R n) (h1 : 1 ≤ rankT n.kind) (h2 : rankT n.kind < 2) : MainR n :=
  ⟨fun e => by omega, fun e => by omega, fun e => by omega, h, fun d ts R ht hS h47 => (h h1 d ts R ht hS).cho h47⟩
theorem main_part {n : Tr} (h : ∀ d ts R, ts.map core = cos (pcT n) → kindT R ≠ 2 → sufK (sgnOf R) = 0 → PartR d ts R n) (h1 : 2 ≤ rankT n.kind) (h2 : rankT n.kind < 3) : MainR n :=
  ⟨fun e => by omega, fun e => by omega, fun _ => h, fun _ d ts R ht hS => (h d ts R ht hS.arrow hS.suf).row hS, fun d ts R ht hS h47 => ((h d ts R ht hS.arrow hS.suf).row hS).cho h47⟩
theorem main_suf {n : Tr} (h : ∀ d ts R, ts.map core = cos (pcT n) → kindT R ≠ 2 → sufK (sgnOf R) = 0 → preK (sgnOf (ts ++ R)) = 0 ∧ SufR d ts R n) (h2 : rankT n.kind = 3) : MainR n :=
  have hp : ∀ d ts R, ts.map core = cos (pcT n) → kindT R ≠ 2 → sufK (sgnOf R) = 0 → PartR d ts R n := fun d ts R ht hk hs => (h d ts R ht hk hs).2.part (h d ts R ht hk hs).1
  ⟨fun e => by omega, fun _ => h, fun _ => hp, fun _ d ts R ht hS => (hp d ts R ht hS.arrow hS.suf).row hS, fun d ts R ht hS h47 => ((hp d ts R ht hS.arrow hS.suf).row hS).cho h47⟩
theorem main_one {n : Tr} (h : ∀ d ts R, ts.map core = cos (pcT n) → kindT R ≠ 2 → preK (sgnOf (ts ++ R)) = 0 ∧ OneR d ts R n) : MainR n :=
  have hs : ∀ d ts R, ts.map core = cos (pcT n) → kindT R ≠ 2 → sufK (sgnOf R) = 0 → preK (sgnOf (ts ++ R)) = 0 ∧ SufR d ts R n := fun d ts R ht hk hs => ⟨(h d ts R ht hk).1, (h d ts R ht hk).2.suf hs⟩
  have hp : ∀ d ts R, ts.map core = cos (pcT n) → kindT R ≠ 2 → sufK (sgnOf R) = 0 → PartR d ts R n := fun d ts R ht hk h3 => (hs d ts R ht hk h3).2.part (hs d ts R ht hk h3).1
  ⟨fun _ => h, fun _ => hs, fun _ => hp, fun _ d ts R ht hS => (hp d ts R ht hS.arrow hS.suf).row hS, fun d ts R ht hS h47 => ((hp d ts R ht hS.arrow hS.suf).row hS).cho h47⟩
/-- A part in parentheses, or as it is. -/
theorem MainR.paren {n : Tr} (h : MainR n) {d : Nat} {ts R : List Tok} (ht : ts.map core = cos (.sg 40 :: (pcT n ++ [.sg 41]))) : preK (sgnOf (ts ++ R)) = 0 ∧ OneR d ts R n := by
  obtain ⟨a, t2, rfl, a1, a2, _, ht2⟩ := core_cons (show ts.map core = (5, [40], 0) :: cos (pcT n ++ [.sg 41]) from ht)
  rw [cos_app] at ht2
  obtain ⟨t3, t4, rfl, ht3, ht4⟩ := core_app ht2
  obtain ⟨b, rfl, b1, b2, _⟩ := core_one ht4
  have hc := close_row (R := R) b1 b2
  exact ⟨by rw [List.cons_append, sgn_is a1 a2]; rfl, ChoR.within ⟨a1, a2⟩ ⟨b1, b2⟩ (fun _ => h.cho (d + 1) t3 (b :: R) ht3 hc.1 hc.2)⟩
theorem MainR.one4 {n : Tr} (h : MainR n) {d : Nat} {ts R : List Tok} (ht : ts.map core = cos (pcQ 4 n)) (hk : kindT R ≠ 2) : preK (sgnOf (ts ++ R)) = 0 ∧ OneR d ts R n := by
  unfold pcQ Go.Proofs.YteohgaheockepaaDoor.paren at ht
  split at ht
  · next h4 => exact h.one h4 d ts R ht hk
  · exact h.paren ht
theorem MainR.suf3 {n : Tr} (h : MainR n) {d : Nat} {ts R : List Tok} (ht : ts.map core = cos (pcQ 3 n)) (hk : kindT R ≠ 2) (hs : sufK (sgnOf R) = 0) : preK (sgnOf (ts ++ R)) = 0 ∧ SufR d ts R n := by
  unfold pcQ Go.Proofs.YteohgaheockepaaDoor.paren at ht
  split at ht
  · next h3 => exact h.suf h3 d ts R ht hk hs
  · exact ⟨(h.paren (d := d) (R := R) ht).1, (h.paren ht).2.suf hs⟩
theorem MainR.part2 {n : Tr} (h : MainR n) {d : Nat} {ts R : List Tok} (ht : ts.map core = cos (pcQ 2 n)) (hk : kindT R ≠ 2) (hs : sufK (sgnOf R) = 0) : PartR d ts R n := by
  unfold pcQ Go.Proofs.YteohgaheockepaaDoor.paren at ht
  split at ht
  · next h2 => exact h.part h2 d ts R ht hk hs
  · exact ((h.paren ht).2.suf hs).part (h.paren (d := d) (R := R) ht).1
theorem MainR.row1 {n : Tr} (h : MainR n) {d : Nat} {ts R : List Tok} (ht : ts.map core = cos (pcQ 1 n)) (hS : StopP R) : RowR d ts R n := by
  unfold pcQ Go.Proofs.YteohgaheockepaaDoor.paren at ht
  split at ht
  · next h1 => exact h.row h1 d ts R ht hS
  · exact (((h.paren ht).2.suf hS.suf).part (h.paren (d := d) (R := R) ht).1).row hS
/-- The first token of a part is no arrow, and no sign that stands behind one. -/
def StartP (ts : List Tok) : Prop := ∀ R, kindT (ts ++ R) ≠ 2 ∧ sufK (sgnOf (ts ++ R)) = 0 ∧ ts ≠ []
theorem start_tok {t : Tok} {l : List Tok} (h1 : t.kind ≠ 2) (h2 : sufK (sgnOf [t]) = 0) : StartP (t :: l) := fun _ => ⟨h1, h2, by simp⟩
theorem start_app {l m : List Tok} (h : StartP l) : StartP (l ++ m) := fun R => by
  rw [List.append_assoc]
  exact ⟨(h _).1, (h _).2.1, fun e => (h []).2.2 (List.append_eq_nil_iff.1 e).1⟩
theorem start_sign {t : Tok} {l : List Tok} {b : UInt8} (h1 : t.kind = 5) (h2 : t.text = [b]) (hb : b = 40 ∨ b = 38 ∨ b = 33 ∨ b = 46) : StartP (t :: l) := by
  refine start_tok (by omega) ?_
  rw [sgn_is h1 h2]
  rcases hb with rfl | rfl | rfl | rfl <;> rfl
theorem start_tree {n : Tr} (h : OkT n) : ∀ ts, ts.map core = cos (pcT n) → StartP ts := by
  have hparen : ∀ (r k : Nat) (l : List Pc) (m : List Pc), (∀ ts, ts.map core = cos l → StartP ts) → ∀ ts, ts.map core = cos (paren r k l ++ m) → StartP ts := by
    intro r k l m hl ts ht
    unfold paren at ht
    split at ht
    · rw [cos_app] at ht
      obtain ⟨t1, t2, rfl, ht1, _⟩ := core_app ht
      exact start_app (hl t1 ht1)
    · obtain ⟨a, t2, rfl, a1, a2, _, _⟩ := core_cons (show ts.map core = (5, [40], 0) :: cos (l ++ [.sg 41] ++ m) from ht)
      exact start_sign a1 a2 (.inl rfl)
  induction h with
  | empty =>
    intro ts ht
    obtain ⟨a, t2, rfl, a1, a2, _, _⟩ := core_cons (show ts.map core = (5, [40], 0) :: [(5, [41], 0)] from ht)
    exact start_sign a1 a2 (.inl rfl)
  | @lit t p _ =>
    intro ts ht
    obtain ⟨a, rfl, a1, _, _⟩ := core_one (show ts.map core = [(3, t, 0)] from ht)
    exact start_tok (by rw [a1]; simp) (by rw [sgn_no (by rw [a1]; simp)]; rfl)
  | @set c p =>
    intro ts ht
    obtain ⟨a, rfl, a1, _, _⟩ := core_one (show ts.map core = [(4, [], c)] from ht)
    exact start_tok (by rw [a1]; simp) (by rw [sgn_no (by rw [a1]; simp)]; rfl)
  | any =>
    intro ts ht
    obtain ⟨a, rfl, a1, a2, _⟩ := core_one (show ts.map core = [(5, [46], 0)] from ht)
    exact start_sign a1 a2 (.inr (.inr (.inr rfl)))
  | @ref t p _ =>
    intro ts ht
    obtain ⟨a, rfl, a1, _, _⟩ := core_one (show ts.map core = [(1, t, 0)] from ht)
    exact start_tok (by rw [a1]; simp) (by rw [sgn_no (by rw [a1]; simp)]; rfl)
  | @seq l p hl _ ih =>
    intro ts ht
    cases l with
    | nil => simp at hl
    | cons n l => exact hparen 2 _ _ _ (ih n List.mem_cons_self) ts (by rw [show pcT (.mk 6 [] 0 (n :: l) p) = pcR [.sp] 2 true (n :: l) from rfl, pcR_cons] at ht; exact ht)
  | @alt l p hl _ ih =>
    intro ts ht
    cases l with
    | nil => simp at hl
    | cons n l => exact hparen 1 _ _ _ (ih n List.mem_cons_self) ts (by rw [show pcT (.mk 7 [] 0 (n :: l) p) = pcR [.sp, .sg 47, .sp] 1 true (n :: l) from rfl, pcR_cons] at ht; exact ht)
  | @post k p x hk _ ih =>
    intro ts ht
    have e : pcT (.mk k [] 0 [x] p) = pcR [] 4 true [x] ++ [.sg (postB k)] := by rcases hk with rfl | rfl | rfl <;> (rw [pcT]; rfl)
    rw [e, pcR_cons, pcR_nil, List.append_nil] at ht
    exact hparen 4 _ _ _ ih ts ht
  | @pre k p x hk _ ih =>
    intro ts ht
    have e : pcT (.mk k [] 0 [x] p) = .sg (preB k) :: pcR [] 3 true [x] := by rcases hk with rfl | rfl <;> (rw [pcT]; rfl)
    rw [e] at ht
    obtain ⟨a, t2, rfl, a1, a2, _, _⟩ := core_cons (show ts.map core = (5, [preB k], 0) :: cos (pcR [] 3 true [x]) from ht)
    exact start_sign a1 a2 (by rcases hk with rfl | rfl; exact .inr (.inl rfl); exact .inr (.inr (.inl rfl)))
theorem start_part {n : Tr} (h : OkT n) {r : Nat} {ts : List Tok} (ht : ts.map core = cos (pcQ r n)) : StartP ts := by
  unfold pcQ paren at ht
  split at ht
  · exact start_tree h ts ht
  · obtain ⟨a, t2, rfl, a1, a2, _, _⟩ := core_cons (show ts.map core = (5, [40], 0) :: cos (pcT n ++ [.sg 41]) from ht)
    exact start_sign a1 a2 (.inl rfl)
end Go.Proofs.YteohgaheockepaaDoor
namespace Go.Proofs.YteohgaheockepaaDoor
open Go.RowKit

theorem stopP_rest {ts R : List Tok} (h : StopP R) (h2 : ts = [] ∨ StartP ts) : kindT (ts ++ R) ≠ 2 ∧ sufK (sgnOf (ts ++ R)) = 0 := by
  rcases h2 with rfl | h2
  · exact ⟨h.arrow, h.suf⟩
  · exact ⟨(h2 R).1, (h2 R).2.1⟩
/-- Parts, one behind another. -/
theorem parts_list {d : Nat} {R : List Tok} (hS : StopP R) : ∀ (l : List Tr) (first : Bool), (∀ n ∈ l, MainR n) → (∀ n ∈ l, OkT n) → ∀ ts, ts.map core = cos (pcR [.sp] 2 first l) → PartsR d ts R l ∧ (l = [] → ts = []) ∧ (l ≠ [] → StartP ts) := by
  intro l
  induction l with
  | nil =>
    intro first _ _ ts ht
    rw [pcR_nil] at ht
    obtain rfl : ts = [] := List.map_eq_nil_iff.1 ht
    exact ⟨PartsR.stop hS, fun _ => rfl, fun h => absurd rfl h⟩
  | cons n l ih =>
    intro first hm ho ts ht
    have ht2 : ts.map core = cos (pcQ 2 n) ++ cos (pcR [.sp] 2 false l) := by
      rw [ht, pcR_cons, cos_app, cos_app]
      cases first <;> rfl
    obtain ⟨t1, t2, rfl, h1, h2⟩ := core_app ht2
    obtain ⟨g1, g2, g3⟩ := ih false (fun m h => hm m (List.mem_cons_of_mem _ h)) (fun m h => ho m (List.mem_cons_of_mem _ h)) t2 h2
    have hr := stopP_rest (ts := t2) hS (by
      cases l with
      | nil => exact .inl (g2 rfl)
      | cons _ _ => exact .inr (g3 (by simp)))
    exact ⟨((hm n List.mem_cons_self).part2 h1 hr.1 hr.2).cons g1, fun e => (by cases e), fun _ => start_app (start_part (ho n List.mem_cons_self) h1)⟩
/-- Rows, one behind another, each with a sign ahead. -/
theorem alts_list {d : Nat} {R : List Tok} (hS : StopP R) (h47 : sgnOf R ≠ [47]) : ∀ (l : List Tr), (∀ n ∈ l, MainR n) → ∀ ts, ts.map core = cos (pcR [.sp, .sg 47, .sp] 1 false l) → AltsR d ts R l ∧ StopP (ts ++ R) := by
  intro l
  induction l with
  | nil =>
    intro _ ts ht
    rw [pcR_nil] at ht
    obtain rfl : ts = [] := List.map_eq_nil_iff.1 ht
    exact ⟨AltsR.stop h47, hS⟩
  | cons n l ih =>
    intro hm ts ht
    have ht2 : ts.map core = (5, [47], 0) :: (cos (pcQ 1 n) ++ cos (pcR [.sp, .sg 47, .sp] 1 false l)) := by
      rw [ht, pcR_cons, cos_app, cos_app]
      rfl
    obtain ⟨a, t0, rfl, a1, a2, _, ht3⟩ := core_cons ht2
    obtain ⟨t1, t2, rfl, h1, h2⟩ := core_app ht3
    obtain ⟨g1, g2⟩ := ih (fun m h => hm m (List.mem_cons_of_mem _ h)) t2 h2
    exact ⟨RowR.cons (sgn_is a1 a2) ((hm n List.mem_cons_self).row1 h1 g2) g1, slash_row a1 a2⟩
theorem trs_one {x : Tr} {m : Nd} (h : SameT false x m.tr) : SameU false [x] (Nd.trs [m]) := by
  rw [Nd.trs, Nd.trs]
  exact .cons h .nil
theorem same_join {k : Nat} {z : Int} (hz : z = (k : Int)) {l : List Tr} {ms : List Nd} {p : Int} (hl : 1 < l.length) (h : SameU false l (Nd.trs ms)) : SameT false (.mk z [] 0 l p) (joinN k ms).tr := by
  subst hz
  have hlen := h.length
  rw [Nd.trs_length] at hlen
  match ms with
  | [] => rw [List.length_nil] at hlen; omega
  | [_] => rw [List.length_singleton] at hlen; omega
  | a :: b :: ms =>
    rw [joinN, Nd.tr]
    exact .mk (fun e => by cases e) h
theorem main_tree {n : Tr} (h : OkT n) : MainR n := by
  induction h with
  | @empty p =>
    refine main_one (fun d ts R ht _ => ?_)
    obtain ⟨a, t2, rfl, a1, a2, _, ht2⟩ := core_cons (show ts.map core = (5, [40], 0) :: [(5, [41], 0)] from ht)
    obtain ⟨b, rfl, b1, b2, _⟩ := core_one ht2
    refine ⟨by rw [List.cons_append, sgn_is a1 a2]; rfl, ChoR.within (ts := []) ⟨a1, a2⟩ ⟨b1, b2⟩ (fun _ => ?_)⟩
    obtain ⟨c1, c2⟩ := close_row (R := R) b1 b2
    refine RowR.cho ?_ c2
    rcases PartsR.stop (d := d + 1) c1 [] with ⟨f, ms, g1, g2⟩ | ⟨f, x, g⟩
    · cases ms with
      | nil => exact .inl ⟨f, _, g1, .mk (fun e => by cases e) .nil⟩
      | cons m ms => rw [Nd.trs] at g2; cases g2
    · exact .inr ⟨f, x, g⟩
  | @lit t p _ =>
    refine main_one (fun d ts R ht _ => ?_)
    obtain ⟨a, rfl, a1, a2, a3⟩ := core_one (show ts.map core = [(3, t, 0)] from ht)
    dsimp only at a1 a2 a3
    refine ⟨by rw [List.cons_append, sgn_no (by omega)]; rfl, .inl ⟨1, .mk 2 a.text a.cls [] a.pos, ?_, ?_⟩⟩
    · rw [List.cons_append, pOne, if_neg (by omega), if_pos a1]
      rfl
    · rw [a2, a3]
      exact .mk (fun e => by cases e) .nil
  | @set c p =>
    refine main_one (fun d ts R ht _ => ?_)
    obtain ⟨a, rfl, a1, a2, a3⟩ := core_one (show ts.map core = [(4, [], c)] from ht)
    dsimp only at a1 a2 a3
    refine ⟨by rw [List.cons_append, sgn_no (by omega)]; rfl, .inl ⟨1, .mk 3 a.text a.cls [] a.pos, ?_, ?_⟩⟩
    · rw [List.cons_append, pOne, if_neg (by omega), if_neg (by omega), if_pos a1]
      rfl
    · rw [a2, a3]
      exact .mk (fun e => by cases e) .nil
  | @any p =>
    refine main_one (fun d ts R ht _ => ?_)
    obtain ⟨a, rfl, a1, a2, a3⟩ := core_one (show ts.map core = [(5, [46], 0)] from ht)
    dsimp only at a1 a2 a3
    refine ⟨by rw [List.cons_append, sgn_is a1 a2]; rfl, .inl ⟨1, .mk 4 [] a.cls [] a.pos, ?_, ?_⟩⟩
    · rw [List.cons_append, pOne, if_neg (by omega), if_neg (by omega), if_neg (by omega), if_pos ⟨a1, a2⟩]
      rfl
    · rw [a3]
      exact .mk (fun e => by cases e) .nil
  | @ref t p _ =>
    refine main_one (fun d ts R ht hk => ?_)
    obtain ⟨a, rfl, a1, a2, a3⟩ := core_one (show ts.map core = [(1, t, 0)] from ht)
    dsimp only at a1 a2 a3
    refine ⟨by rw [List.cons_append, sgn_no (by omega)]; rfl, .inl ⟨1, .mk 5 a.text a.cls [] a.pos, ?_, ?_⟩⟩
    · rw [List.cons_append, pOne, if_pos a1, List.nil_append, if_neg hk]
    · rw [a2, a3]
      exact .mk (fun e => by cases e) .nil
  | @seq l p hl ho ih =>
    refine main_row (fun _ d ts R ht hS => ?_) (Nat.le_refl 1) (Nat.lt_succ_self 1)
    rw [show pcT (.mk 6 [] 0 l p) = pcR [.sp] 2 true l from rfl] at ht
    rcases (parts_list hS l true ih ho ts ht).1 [] with ⟨f, ms, g1, g2⟩ | ⟨f, x, g⟩
    · refine .inl ⟨f, _, g1, ?_⟩
      have hlen := g2.length
      rw [Nd.trs_length] at hlen
      rw [List.nil_append, rowN, if_neg (by omega)]
      exact same_join rfl hl g2
    · exact .inr ⟨f, x, g⟩
  | @alt l p hl ho ih =>
    have key : ∀ d ts R, ts.map core = cos (pcT (.mk 7 [] 0 l p)) → StopP R → sgnOf R ≠ [47] → ChoR d ts R (.mk 7 [] 0 l p) := by
      intro d ts R ht hS h47
      rw [show pcT (.mk 7 [] 0 l p) = pcR [.sp, .sg 47, .sp] 1 true l from rfl] at ht
      cases l with
      | nil => simp at hl
      | cons n l =>
        have ht2 : ts.map core = cos (pcQ 1 n) ++ cos (pcR [.sp, .sg 47, .sp] 1 false l) := by
          rw [ht, pcR_cons, cos_app, cos_app]
          rfl
        obtain ⟨t1, t2, rfl, h1, h2⟩ := core_app ht2
        obtain ⟨g1, g2⟩ := alts_list (d := d) hS h47 l (fun m h => ih m (List.mem_cons_of_mem _ h)) t2 h2
        have hrow := (ih n List.mem_cons_self).row1 (d := d) h1 g2
        unfold ChoR
        rw [List.append_assoc]
        rcases hrow with ⟨f, m, q1, q2⟩ | ⟨f, x, q⟩
        · rcases g1 [m] with ⟨f2, ms, q3, q4⟩ | ⟨f2, x, q3⟩
          · refine .inl ⟨f + f2 + 1, _, ?_, same_join (ms := m :: ms) rfl hl (by rw [Nd.trs]; exact .cons q2 q4)⟩
            rw [pChoice, pParts_mono q1 (by omega)]
            show pAlts (f + f2) d (t2 ++ R) [m] = _
            rw [pAlts_mono q3 (by omega)]
            rfl
          · refine .inr ⟨f + f2 + 1, x, ?_⟩
            rw [pChoice, pParts_mono q1 (by omega)]
            exact pAlts_mono q3 (by omega)
        · exact .inr ⟨f + 1, x, by rw [pChoice, q]⟩
    have h0 : rankT (Tr.mk 7 [] 0 l p).kind = 0 := rfl
    exact ⟨fun e => by omega, fun e => by omega, fun e => by omega, fun e => by omega, key⟩
  | @post k p x hk ho ih =>
    have e : pcT (.mk k [] 0 [x] p) = pcR [] 4 true [x] ++ [.sg (postB k)] := by rcases hk with rfl | rfl | rfl <;> (rw [pcT]; rfl)
    refine main_suf (fun d ts R ht _ _ => ?_) (by rcases hk with rfl | rfl | rfl <;> rfl)
    rw [e, pcR_cons, pcR_nil, List.append_nil, cos_app] at ht
    obtain ⟨t1, t2, rfl, h1, h2⟩ := core_app ht
    obtain ⟨s, rfl, s1, s2, _⟩ := core_one (show t2.map core = [(5, [postB k], 0)] from h2)
    dsimp only at s1 s2
    have hs : sgnOf (s :: R) = [postB k] := sgn_is s1 s2
    have hf : sufK (sgnOf (s :: R)) ≠ 0 ∧ (k : Int) = (sufK (sgnOf (s :: R)) : Nat) := by rw [hs]; rcases hk with rfl | rfl | rfl <;> exact ⟨by decide, rfl⟩
    have e2 : t1 ++ [s] ++ R = t1 ++ s :: R := by simp
    obtain ⟨q0, q⟩ := ih.one4 (d := d) (R := s :: R) h1 (show s.kind ≠ 2 by omega)
    refine ⟨by rw [e2]; exact q0, ?_⟩
    unfold SufR
    rw [e2]
    rcases q with ⟨f, m, q1, q2⟩ | q
    · refine .inl ⟨f, m, s :: R, q1, ?_, by rw [if_neg hf.1]; rfl⟩
      rw [signed, if_neg hf.1, Nd.tr, ← hf.2]
      exact .mk (fun e => by cases e) (trs_one q2)
    · exact .inr q
  | @pre k p x hk ho ih =>
    have e : pcT (.mk k [] 0 [x] p) = .sg (preB k) :: pcR [] 3 true [x] := by rcases hk with rfl | rfl <;> (rw [pcT]; rfl)
    refine main_part (fun d ts R ht hk2 hsf => ?_) (by rcases hk with rfl | rfl <;> exact Nat.le_refl 2) (by rcases hk with rfl | rfl <;> exact Nat.lt_succ_self 2)
    rw [e, pcR_cons, pcR_nil, List.append_nil] at ht
    obtain ⟨s, t1, rfl, s1, s2, _, h1⟩ := core_cons (show ts.map core = (5, [preB k], 0) :: cos (pcQ 3 x) from ht)
    dsimp only at s1 s2
    have hs : sgnOf (s :: (t1 ++ R)) = [preB k] := sgn_is s1 s2
    have hf : preK (sgnOf (s :: (t1 ++ R))) ≠ 0 ∧ (k : Int) = (preK (sgnOf (s :: (t1 ++ R))) : Nat) := by rw [hs]; rcases hk with rfl | rfl <;> exact ⟨by decide, rfl⟩
    obtain ⟨_, q⟩ := ih.suf3 (d := d) (R := R) h1 hk2 hsf
    unfold PartR
    rw [List.cons_append]
    rcases q with ⟨f, m, R1, q1, q2, q3⟩ | ⟨f, x, q⟩
    · have := part_some (f := f) (d := d) (rs := s :: (t1 ++ R)) (rs2 := R1) (n := m) (by rw [if_neg hf.1]; exact q1)
      rw [q3] at this
      refine .inl ⟨f + 1, _, this, ?_⟩
      rw [signed, if_neg hf.1, Nd.tr, ← hf.2]
      exact .mk (fun e => by cases e) (trs_one q2)
    · exact .inr ⟨f + 1, x, part_err (by rw [if_neg hf.1]; exact q)⟩
end Go.Proofs.YteohgaheockepaaDoor
namespace Go.Proofs.YteohgaheockepaaDoor
open Go.RowKit

def OkR (r : Rr) : Prop := isName r.name = true ∧ OkT r.body
/-- The pieces of a grammar's text. -/
def pcU (r : Rr) : List Pc := .nm r.name :: .sp :: .ar :: .sp :: (pcT r.body ++ [.nl])
def pcG : List Rr → List Pc
  | [] => []
  | r :: l => pcU r ++ pcG l
def Ru.rr (u : Ru) : Rr := ⟨u.name, u.body.tr, (u.pos : Int)⟩
theorem good_gram : ∀ g : List Rr, (∀ r ∈ g, OkR r) → Good (pcG g) := by
  intro g
  induction g with
  | nil => intro _; exact trivial
  | cons r g ih =>
    intro h
    have hr := h r List.mem_cons_self
    have hg := ih (fun m hm => h m (List.mem_cons_of_mem _ hm))
    have hb : Good (pcT r.body ++ (.nl :: pcG g)) := good_tree hr.2 _ ⟨trivial, fun u e => (by cases e), hg⟩ (by
      intro b x e
      injection e with e1 e2
      subst e1
      rfl)
    show Good (.nm r.name :: .sp :: .ar :: .sp :: ((pcT r.body ++ [.nl]) ++ pcG g))
    rw [List.append_assoc]
    refine ⟨hr.1, fun u e => stop_blank _, trivial, fun u e => (by cases e), trivial, fun u e => (by cases e), trivial, fun u e => (by cases e), hb⟩
theorem rules_list {e : Tok} (he : e.kind = 6) : ∀ (g : List Rr), (∀ r ∈ g, OkR r) → ∀ ts, ts.map core = cos (pcG g) → (StopP (ts ++ [e]) ∧ sgnOf (ts ++ [e]) ≠ [47]) ∧ ∀ acc : List Ru, 0 < acc.length + g.length → acc.length + g.length ≤ 64 →
    (∃ f hs, pRules f (ts ++ [e]) acc = some (.ok (acc ++ hs) [e]) ∧ SameR false g (hs.map Ru.rr)) ∨ ∃ f x, pRules f (ts ++ [e]) acc = some (.err 2 x) := by
  intro g
  induction g with
  | nil =>
    intro _ ts ht
    obtain rfl : ts = [] := List.map_eq_nil_iff.1 ht
    refine ⟨⟨(end_stop he).row, (end_stop he).sl⟩, fun acc h0 _ => .inl ⟨1, [], ?_, .nil⟩⟩
    simp only [List.length_nil, Nat.add_zero] at h0
    rw [List.nil_append, pRules, if_pos ⟨by omega, he⟩, List.append_nil]
  | cons r g ih =>
    intro hr ts ht
    have hok := hr r List.mem_cons_self
    have ht2 : ts.map core = (1, r.name, 0) :: (2, [], 0) :: (cos (pcT r.body) ++ cos (pcG g)) := by
      rw [ht]
      show cos (.nm r.name :: .sp :: .ar :: .sp :: ((pcT r.body ++ [.nl]) ++ pcG g)) = _
      rw [List.append_assoc]
      show (1, r.name, 0) :: (2, [], 0) :: cos (pcT r.body ++ (.nl :: pcG g)) = _
      rw [cos_app]
      rfl
    obtain ⟨a, t0, rfl, a1, a2, _, ht3⟩ := core_cons ht2
    obtain ⟨b, t3, rfl, b1, _, _, ht4⟩ := core_cons ht3
    obtain ⟨t1, t2, rfl, h1, h2⟩ := core_app ht4
    dsimp only at a1 a2 b1
    obtain ⟨⟨g1, g2⟩, g3⟩ := ih (fun m hm => hr m (List.mem_cons_of_mem _ hm)) t2 h2
    have hs : sgnOf (a :: b :: (t1 ++ t2) ++ [e]) = [] := sgn_no (by omega)
    refine ⟨⟨⟨by rw [hs]; rfl, by rw [hs]; rfl, by show a.kind ≠ 2; omega, fun f d => ?_⟩, by rw [hs]; decide⟩, fun acc _ h64 => ?_⟩
    · rw [List.cons_append, pOne, if_pos a1, if_pos (show kindT (b :: (t1 ++ t2) ++ [e]) = 2 from b1)]
    · simp only [List.length_cons] at h64
      have ek : kindT (a :: b :: (t1 ++ t2) ++ [e]) = 1 := a1
      have ek2 : kindT (a :: b :: (t1 ++ t2) ++ [e]).tail = 2 := b1
      have et : (a :: b :: (t1 ++ t2) ++ [e]).tail.tail = t1 ++ (t2 ++ [e]) := by simp
      rcases (main_tree hok.2).cho 0 t1 (t2 ++ [e]) h1 g1 g2 with ⟨f, m, q1, q2⟩ | ⟨f, x, q⟩
      · rcases g3 (acc ++ [⟨r.name, m, a.pos⟩]) (by simp; omega) (by simp; omega) with ⟨f2, hs, q3, q4⟩ | ⟨f2, x, q3⟩
        · refine .inl ⟨f + f2 + 1, ⟨r.name, m, a.pos⟩ :: hs, ?_, ?_⟩
          · rw [pRules, if_neg (by rw [ek]; omega), if_neg (by omega), if_neg (fun h => h ek), if_neg (fun h => h ek2), et, pChoice_mono q1 (by omega)]
            show pRules (f + f2) (t2 ++ [e]) (acc ++ [⟨a.text, m, a.pos⟩]) = _
            rw [a2, pRules_mono q3 (by omega)]
            simp
          · rw [List.map_cons]
            exact .cons q2 (fun e => by cases e) q4
        · refine .inr ⟨f + f2 + 1, x, ?_⟩
          rw [pRules, if_neg (by rw [ek]; omega), if_neg (by omega), if_neg (fun h => h ek), if_neg (fun h => h ek2), et, pChoice_mono q1 (by omega)]
          show pRules (f + f2) (t2 ++ [e]) (acc ++ [⟨a.text, m, a.pos⟩]) = _
          rw [a2]
          exact pRules_mono q3 (by omega)
      · refine .inr ⟨f + 1, x, ?_⟩
        rw [pRules, if_neg (by rw [ek]; omega), if_neg (by omega), if_neg (fun h => h ek), if_neg (fun h => h ek2), et, q]
/-- A grammar's text is read as the grammar, or there are too many parentheses. -/
theorem gram_reads {g : List Rr} (h : ∀ r ∈ g, OkR r) (h0 : 0 < g.length) (h64 : g.length ≤ 64) (h8 : (txs (pcG g)).length ≤ 8192) :
    (∃ hs, Reads (txs (pcG g)) (.inr hs) ∧ SameR false g (hs.map Ru.rr)) ∨ ∃ x : Int, Reads (txs (pcG g)) (.inl (2, x)) := by
  obtain ⟨r, h1, h2⟩ := good_lexed (good_gram g h) h8
  unfold Reads
  rw [h1]
  rcases (rules_list (e := ⟨6, [], 0, (txs (pcG g)).length⟩) rfl g h r h2).2 [] (by simpa using h0) (by simpa using h64) with ⟨f, hs, q1, q2⟩ | ⟨f, x, q⟩
  · exact .inl ⟨hs, ⟨f, .inr ⟨_, _, q1, rfl⟩⟩, q2⟩
  · exact .inr ⟨x, ⟨f, .inl ⟨_, _, q, rfl⟩⟩⟩
end Go.Proofs.YteohgaheockepaaDoor
namespace Go.Proofs.YteohgaheockepaaDoor
open Go.RowKit Go.Sort

theorem RuReps.anyR {w : World} {P : Nat → Prop} {l : List Ru} {cs : List Value} (h : RuReps w P l cs) : ∀ (g o : Nat), (∀ j, j < cs.length → w.cell? ⟨g, o + j, none⟩ = cs[j]?) → RepR w P g o (l.map Ru.rr) := by
  induction h with
  | nil => intro g o _; exact .nil
  | @cons x l c cs h1 h2 ih =>
    intro g o hc
    have h8 : c.length = 8 := h1.length
    have h10 : (Value.string (mkS x.name) :: (c ++ [.int .i64 (x.pos : Int)])).length = 10 := by simp [h8]
    rw [List.map_cons]
    refine .cons (cs := c) (fun j hj => ?_) h1.anyT (ih g (o + 10) (fun j hj => ?_))
    · have := hc j (by rw [List.length_append]; omega)
      rw [List.getElem?_append_left (by omega)] at this
      exact this
    · have := hc (10 + j) (by rw [List.length_append]; omega)
      rw [List.getElem?_append_right (by omega), h10, Nat.add_sub_cancel_left] at this
      rw [← this]
      congr 2
      omega
theorem RuReps.lengths {w : World} {P : Nat → Prop} {l : List Ru} {cs : List Value} (h : RuReps w P l cs) : cs.length = l.length * 10 := by
  induction h with
  | nil => rfl
  | cons h1 _ ih =>
    have h8 := h1.length
    simp [ih, h8]
    omega
theorem GRep.anyG {w : World} {P : Nat → Prop} {gs : List Ru} {v : Value} (h : GRep w P gs v) : RepGr w P (gs.map Ru.rr) v := by
  rcases h with ⟨rfl, rfl⟩ | ⟨b, cap, cur, cs, rfl, h2, h3, h4, hm, h5, h6, h7⟩
  · exact .null
  · have hl := h7.lengths
    have := RepGr.row (w := w) (P := P) (l := gs.map Ru.rr) (g := b) (o := 0) (cap := cap) h2 (by simpa using h5) (by simpa using h4) (by simpa using hm) (h7.anyR b 0 (fun j hj => by
      rw [(cells_at h3).1, ← h6, List.getElem?_take, if_pos (by omega), Array.getElem?_toList, Nat.zero_add]))
    rw [List.length_map] at this
    exact this
end Go.Proofs.YteohgaheockepaaDoor
namespace Go.Proofs.YteohgaheockepaaDoor
open Go.ChangeShapes Go.WideShapes Go.RowKit Go.Joins
theorem own : ownKnob Tryd.prog.godebug = none := by kernel_rfl
theorem laidOut : laidOutB Tryd.prog = true := by kernel_rfl
theorem cells_word : Tryd.prog.cellsOf 34 = 1 := by kernel_rfl
set_option maxRecDepth 100000 in
theorem open_cls {H : Type} {enc : TypeId × Value → H} {w : World} {r : Reach} {b0 base : Nat} {spare : Nat → Bool} {held : Bool} {v : Value} {d : DataW H} {p : List MemPlace} (hv : Value.okWide Tryd.prog w r b0 36 v) (h : DataW.Trod enc Tryd.prog w base spare held 36 v d p) :
    ∃ c : BitVec 256, v = .agg #[.int .u64 (wd c 0), .int .u64 (wd c 1), .int .u64 (wd c 2), .int .u64 (wd c 3)] := by
  obtain ⟨cs, rfl, hsz⟩ : ∃ cs, v = .agg cs ∧ cs.size = 4 := by
    simp only [Value.okWide, Tryd.underlying36] at hv
    obtain ⟨cs, h1, h2, _⟩ := hv
    exact ⟨cs, h1, h2.trans (by kernel_rfl)⟩
  obtain ⟨c0, c1, c2, c3, rfl⟩ := array4 hsz
  obtain ⟨fuel, hf⟩ := h
  obtain ⟨xs, m, _, _, _, hl, hg⟩ := DataW.trod_array Tryd.underlying36 hf
  rw [cells_word] at hg
  have one : ∀ (i : Nat) (ci : Value), i < 4 → (((Value.agg #[c0, c1, c2, c3]).cells.toList.drop (i * 1)).take 1) = [ci] → ∃ n : Int, ci = .int .u64 n ∧ 0 ≤ n ∧ n < 18446744073709551616 := by
    intro i ci hi hc
    have h1 := hg i hi
    rw [hc] at h1
    obtain ⟨x, hx⟩ : ∃ x, xs[i]? = some x := ⟨xs[i]'(by omega), List.getElem?_eq_getElem (by omega)⟩
    rw [hx] at h1
    obtain ⟨n, e1, _, hw⟩ := DataW.trod_int Tryd.underlying34 h1
    injection e1 with e1 _
    refine ⟨n, e1, ?_⟩
    have := bounds_u64 hw
    omega
  obtain ⟨n0, rfl, a0, b0⟩ := one 0 c0 (by decide) rfl
  obtain ⟨n1, rfl, a1, b1⟩ := one 1 c1 (by decide) rfl
  obtain ⟨n2, rfl, a2, b2⟩ := one 2 c2 (by decide) rfl
  obtain ⟨n3, rfl, a3, b3⟩ := one 3 c3 (by decide) rfl
  obtain ⟨x, e0, e1, e2, e3⟩ := cl_of ⟨a0, b0⟩ ⟨a1, b1⟩ ⟨a2, b2⟩ ⟨a3, b3⟩
  exact ⟨x, by rw [e0, e1, e2, e3]⟩
end Go.Proofs.YteohgaheockepaaDoor
