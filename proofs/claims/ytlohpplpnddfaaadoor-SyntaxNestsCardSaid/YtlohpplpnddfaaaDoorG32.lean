/- Parentheses in one another: plain. | Parentheses in one another: what is read. | The walk of SyntaxNests. -/
import Derived.Test.YtlohpplpnddfaaaDoorG19
import Derived.Laws.Bits64b
import Derived.Test.YtlohpplpnddfaaaDoorG21
namespace Go.Proofs.YtlohpplpnddfaaaDoor
open Go.RowKit

/-- One part, and tokens behind it at which a choice stops. -/
theorem choice_of_one {f d : Nat} {rs R : List Tok} {n : Nd} (h : pOne f d rs = some (.ok (some n) R)) (hp : preK (sgnOf rs) = 0) (hS : StopT R) : ∃ f', pChoice f' d rs = some (.ok n R) := by
  have h1 : pPart (f + 1) d rs = some (.ok (some n) R) := by
    have := part_some (f := f) (d := d) (rs := rs) (rs2 := R) (n := n) (by rw [if_pos hp]; exact h)
    rw [hp, hS.suf, if_pos rfl] at this
    exact this
  have h2 : pPart (f + 2) d R = some (.ok none R) := by
    rw [pPart, if_pos hS.pre, hS.one]
    simp only
    rw [if_pos hS.pre]
  have h3 : pParts (f + 4) d rs [] = some (.ok n R) := by
    rw [pParts, pPart_mono h1 (by omega)]
    show pParts (f + 3) d R [n] = _
    rw [pParts, h2]
    rfl
  refine ⟨f + 5, ?_⟩
  rw [pChoice, h3]
  show pAlts (f + 4) d R [n] = _
  rw [pAlts, if_neg hS.sl]
  rfl
def isOp (t : Tok) : Prop := t.kind = 5 ∧ t.text = [40]
def isCl (t : Tok) : Prop := t.kind = 5 ∧ t.text = [41]
theorem close_stop {c : Tok} {R : List Tok} (h : isCl c) : StopT (c :: R) := by
  obtain ⟨hc, hct⟩ := h
  have hs : sgnOf (c :: R) = [41] := by rw [sgnOf, if_pos hc, hct]
  refine ⟨by rw [hs]; decide, by rw [hs]; rfl, by rw [hs]; rfl, by show c.kind ≠ 2; omega, fun f d => ?_⟩
  rw [pOne, if_neg (by omega), if_neg (by omega), if_neg (by omega), if_neg (by rw [hct]; simp), if_neg (by rw [hct]; simp)]
theorem nest_ok {x : Tok} (hx : x.kind = 3) : ∀ (P C R : List Tok) (d : Nat), (∀ t ∈ P, isOp t) → (∀ t ∈ C, isCl t) → P.length = C.length → d + P.length ≤ 24 → StopT R → ∃ f, pChoice f d (P ++ x :: (C ++ R)) = some (.ok (.mk 2 x.text x.cls [] x.pos) R) := by
  intro P
  induction P with
  | nil =>
    intro C R d _ _ hl _ hS
    obtain rfl : C = [] := List.eq_nil_of_length_eq_zero hl.symm
    refine choice_of_one (f := 1) ?_ ?_ hS
    · rw [List.nil_append, pOne, if_neg (by omega), if_pos hx]; rfl
    · rw [List.nil_append, sgnOf, if_neg (by omega)]; rfl
  | cons p P ih =>
    intro C R d hP hC hl hd hS
    rcases List.eq_nil_or_concat C with rfl | ⟨C, c, rfl⟩
    · simp at hl
    have hp := hP p (by simp)
    have hc := hC c (by simp)
    simp at hl hd
    obtain ⟨f, hf⟩ := ih C (c :: R) (d + 1) (fun t ht => hP t (by simp [ht])) (fun t ht => hC t (by simp [ht])) hl (by omega) (close_stop hc)
    refine choice_of_one (f := f + 1) ?_ ?_ hS
    · have e : p :: P ++ x :: (C.concat c ++ R) = p :: (P ++ x :: (C ++ c :: R)) := by simp
      have hs : sgnOf (c :: R) = [41] := by rw [sgnOf, if_pos hc.1, hc.2]
      have h1 := hp.1
      rw [e, pOne, if_neg (by omega), if_neg (by omega), if_neg (by omega), if_neg (by rw [hp.2]; simp), if_pos (show p.kind = 5 ∧ p.text = [40] from hp), if_neg (by omega), hf]
      simp only
      rw [if_pos hs]
      rfl
    · rw [List.cons_append, sgnOf, if_pos hp.1, hp.2]; rfl
theorem choice_of_err {f d c x : Nat} {rs : List Tok} (h : pOne f d rs = some (.err c x)) (hp : preK (sgnOf rs) = 0) : pChoice (f + 3) d rs = some (.err c x) := by
  rw [pChoice, pParts, part_err (by rw [if_pos hp]; exact h)]
theorem nest_no {p : Tok} (hp : isOp p) : ∀ (P R : List Tok) (d : Nat), (∀ t ∈ P, isOp t) → d + P.length = 24 → ∃ f, pChoice f d (P ++ p :: R) = some (.err 2 p.pos) := by
  intro P
  induction P with
  | nil =>
    intro R d _ hd
    simp at hd
    have h1 := hp.1
    refine ⟨4, choice_of_err (f := 1) ?_ ?_⟩
    · rw [List.nil_append, pOne, if_neg (by omega), if_neg (by omega), if_neg (by omega), if_neg (by rw [hp.2]; simp), if_pos (show p.kind = 5 ∧ p.text = [40] from hp), if_pos hd]
    · rw [List.nil_append, sgnOf, if_pos hp.1, hp.2]; rfl
  | cons q P ih =>
    intro R d hP hd
    have hq := hP q (by simp)
    simp at hd
    obtain ⟨f, hf⟩ := ih R (d + 1) (fun t ht => hP t (by simp [ht])) (by omega)
    have h1 := hq.1
    refine ⟨f + 1 + 3, choice_of_err ?_ ?_⟩
    · rw [List.cons_append, pOne, if_neg (by omega), if_neg (by omega), if_neg (by omega), if_neg (by rw [hq.2]; simp), if_pos (show q.kind = 5 ∧ q.text = [40] from hq), if_neg (by omega), hf]
    · rw [List.cons_append, sgnOf, if_pos hq.1, hq.2]; rfl
/-- The source. -/
def nestL (n : Nat) : List UInt8 := [97, 32, 60, 45, 32] ++ (List.replicate n 40 ++ ([39, 120, 39] ++ List.replicate n 41))
/-- A run of one sign. -/
def runT (b : UInt8) : Nat → Nat → List Tok
  | _, 0 => []
  | q, k + 1 => ⟨5, [b], 0, q⟩ :: runT b (q + 1) k
theorem runT_len (b : UInt8) : ∀ (k q : Nat), (runT b q k).length = k := by
  intro k
  induction k with
  | zero => intro q; rfl
  | succ k ih => intro q; rw [runT, List.length_cons, ih]
theorem runT_mem (b : UInt8) : ∀ (k q : Nat), ∀ t ∈ runT b q k, t.kind = 5 ∧ t.text = [b] := by
  intro k
  induction k with
  | zero => intro q t ht; cases ht
  | succ k ih =>
    intro q t ht
    rcases List.mem_cons.1 ht with rfl | ht
    · exact ⟨rfl, rfl⟩
    · exact ih _ t ht
theorem runT_split (b : UInt8) : ∀ (i k q : Nat), runT b q (i + k) = runT b q i ++ runT b (q + i) k := by
  intro i
  induction i with
  | zero => intro k q; simp [runT]
  | succ i ih => intro k q; rw [show i + 1 + k = (i + k) + 1 by omega, runT, runT, ih, show q + 1 + i = q + (i + 1) by omega]; rfl
theorem run_toks {t r : List UInt8} {b : UInt8} (hs : isSign b.toNat = true) (hn : ∀ i, cont i b.toNat = false) (h35 : b.toNat ≠ 35) (hk : isBlank b.toNat = false) : ∀ (k q g : Nat) (acc : List Tok), t.drop q = List.replicate k b ++ r → toksGo t (g + k) q acc = toksGo t g (q + k) (acc ++ runT b q k) := by
  intro k
  induction k with
  | zero => intro q g acc h; simp [runT]
  | succ k ih =>
    intro q g acc h
    rw [List.replicate_succ, List.cons_append] at h
    obtain ⟨h1, h2⟩ := drop_in h
    rw [show g + (k + 1) = (g + k) + 1 by omega, sign_here h1 h2 hs hn h35 hk, ih (q + 1) g _ (drop_next h), runT, show q + (k + 1) = q + 1 + k by omega]
    simp
theorem nest_toks (n : Nat) : toks (nestL n) = .inr (⟨1, [97], 0, 0⟩ :: ⟨2, [], 0, 2⟩ :: (runT 40 5 n ++ ⟨3, [120], 0, 5 + n⟩ :: (runT 41 (8 + n) n ++ [⟨6, [], 0, 8 + 2 * n⟩]))) := by
  have hl : (nestL n).length = 8 + 2 * n := by simp [nestL]; omega
  have hd5 : (nestL n).drop 5 = List.replicate n 40 ++ ([39, 120, 39] ++ List.replicate n 41) := rfl
  have hb : ∀ j, j < 5 → byteAt (nestL n) j = byteAt [97, 32, 60, 45, 32] j := fun j hj => byteAt_ext hj
  have hag : ∀ a, Agr [97, 32, 60, 45, 32] (nestL n) a a 5 := fun a j hj => hb _ hj
  have e1 : tokAt (nestL n) 0 = .inr (⟨1, [97], 0, 0⟩, 1) := tok_agr (s := [97, 32, 60, 45, 32]) (a := 0) (b := 0) (n := 1) (k := ⟨1, [97], 0, 0⟩) (by decide) rfl ((hag 0).mono (by decide)) (fun _ => by unfold Ends; rw [hb 1 (by decide)]; rfl)
  have e2 : tokAt (nestL n) 2 = .inr (⟨2, [], 0, 2⟩, 4) := tok_agr (s := [97, 32, 60, 45, 32]) (a := 2) (b := 2) (n := 4) (k := ⟨2, [], 0, 2⟩) (by decide) rfl ((hag 2).mono (by decide)) (fun h => by cases h)
  have hd6 : (nestL n).drop (5 + n) = [39, 120, 39] ++ List.replicate n 41 := by
    have := drop_more hd5; rwa [List.length_replicate] at this
  have hag3 : Agr [39, 120, 39] (nestL n) 0 (5 + n) 3 := by
    intro j hj
    rw [Nat.zero_add, ← drop_byte, hd6]
    exact byteAt_ext (by simpa using hj)
  have hb3 := hag3.here (by decide)
  have e3 : tokAt (nestL n) (5 + n) = .inr (⟨3, [120], 0, 5 + n⟩, 5 + n + 3) := tok_agr (s := [39, 120, 39]) (a := 0) (b := 5 + n) (n := 3) (k := ⟨3, [120], 0, 0⟩) (by decide) rfl hag3 (fun h => by cases h)
  have hd8 : (nestL n).drop (5 + n + 3) = List.replicate n 41 ++ [] := by
    have := drop_more hd6; simpa using this
  unfold toks
  obtain ⟨F, hF⟩ : ∃ F, 2 * (nestL n).length + 2 = F + 1 + n + 1 + n + 4 := ⟨2 * (nestL n).length + 2 - (2 * n + 6), by omega⟩
  rw [hF, toks_on (by omega) (by rw [hb 0 (by decide)]; decide) (by rw [hb 0 (by decide)]; rfl) e1, toks_blank (by omega) (by rw [hb 1 (by decide)]; decide) (by rw [hb 1 (by decide)]; rfl), toks_on (by omega) (by rw [hb 2 (by decide)]; decide) (by rw [hb 2 (by decide)]; rfl) e2, toks_blank (by omega) (by rw [hb 4 (by decide)]; decide) (by rw [hb 4 (by decide)]; rfl),
    run_toks (by decide) (fun i => by simp [cont, isLet, isDig]) (by decide) (by decide) n (4 + 1) _ _ hd5, toks_on (a := 4 + 1 + n) (by omega) (by rw [show 4 + 1 + n = 5 + n from rfl, hb3]; decide) (by rw [show 4 + 1 + n = 5 + n from rfl, hb3]; rfl) e3, run_toks (by decide) (fun i => by simp [cont, isLet, isDig]) (by decide) (by decide) n (5 + n + 3) _ _ hd8, toks_end (by omega), hl]
  simp [show 5 + n + 3 = 8 + n by omega]
end Go.Proofs.YtlohpplpnddfaaaDoor
namespace Go.Proofs.YtlohpplpnddfaaaDoor
open Go.RowKit

theorem nest_len (n : Nat) : (nestL n).length = 8 + 2 * n := by simp [nestL]; omega
theorem nest_lexed {n : Nat} (h : n ≤ 31) : lexed (nestL n) = .inr (⟨1, [97], 0, 0⟩ :: ⟨2, [], 0, 2⟩ :: (runT 40 5 n ++ ⟨3, [120], 0, 5 + n⟩ :: (runT 41 (8 + n) n ++ [⟨6, [], 0, 8 + 2 * n⟩]))) :=
  lexed_toks (by rw [nest_len]; omega) (nest_toks n)
/-- One rule of a name and a choice. -/
theorem nest_one {a b : Tok} {l r : List Tok} {n : Nd} {f : Nat} (ha : a.kind = 1) (hb : b.kind = 2) (h : pChoice f 0 l = some (.ok n r)) (hr : kindT r = 6) : ∃ f', pRules f' (a :: b :: l) [] = some (.ok [⟨a.text, n, a.pos⟩] r) := by
  refine ⟨f + 2, ?_⟩
  rw [pRules, if_neg (by simp), if_neg (by simp), if_neg (fun h => h ha), if_neg (fun h => h hb), show (a :: b :: l).tail.tail = l from rfl, pChoice_mono h (by omega)]
  simp only
  rw [pRules, if_pos ⟨by simp, hr⟩]
  rfl
theorem nest_bad {a b : Tok} {l : List Tok} {c x f : Nat} (ha : a.kind = 1) (hb : b.kind = 2) (h : pChoice f 0 l = some (.err c x)) : ∃ f', pRules f' (a :: b :: l) [] = some (.err c x) := by
  refine ⟨f + 1, ?_⟩
  rw [pRules, if_neg (by simp), if_neg (by simp), if_neg (fun h => h ha), if_neg (fun h => h hb), show (a :: b :: l).tail.tail = l from rfl, h]
theorem nest_in {n : Nat} (h : n ≤ 24) : Reads (nestL n) (.inr [⟨[97], .mk 2 [120] 0 [] (5 + n), 0⟩]) := by
  obtain ⟨f, hf⟩ := nest_ok (x := ⟨3, [120], 0, 5 + n⟩) rfl (runT 40 5 n) (runT 41 (8 + n) n) [⟨6, [], 0, 8 + 2 * n⟩] 0 (runT_mem 40 n 5) (runT_mem 41 n (8 + n)) (by rw [runT_len, runT_len]) (by rw [runT_len]; omega) (end_stop rfl)
  obtain ⟨f2, h2⟩ := nest_one (a := ⟨1, [97], 0, 0⟩) (b := ⟨2, [], 0, 2⟩) rfl rfl hf rfl
  unfold Reads
  rw [nest_lexed (by omega)]
  exact ⟨f2, .inr ⟨_, _, h2, rfl⟩⟩
theorem nest_out {n : Nat} (h : 24 < n) (h2 : n ≤ 31) : Reads (nestL n) (.inl (2, 29)) := by
  obtain ⟨k, rfl⟩ : ∃ k, n = 24 + (k + 1) := ⟨n - 25, by omega⟩
  obtain ⟨f, hf⟩ := nest_no (p := ⟨5, [40], 0, 29⟩) ⟨rfl, rfl⟩ (runT 40 5 24) (runT 40 30 k ++ ⟨3, [120], 0, 5 + (24 + (k + 1))⟩ :: (runT 41 (8 + (24 + (k + 1))) (24 + (k + 1)) ++ [⟨6, [], 0, 8 + 2 * (24 + (k + 1))⟩])) 0 (runT_mem 40 24 5) (by rw [runT_len])
  obtain ⟨f2, h3⟩ := nest_bad (a := ⟨1, [97], 0, 0⟩) (b := ⟨2, [], 0, 2⟩) rfl rfl hf
  unfold Reads
  rw [nest_lexed h2]
  refine ⟨f2, .inl ⟨2, 29, ?_, rfl⟩⟩
  rw [runT_split 40 24 (k + 1) 5, List.append_assoc]
  exact h3
theorem and31 (x : Int) : ∃ k : Nat, k ≤ 31 ∧ bits .and .i64 x 31 = (k : Int) := by
  have h := Nat.and_le_right (n := (BitVec.ofInt 64 x).toNat) (m := 31)
  refine ⟨_, h, ?_⟩
  show IntKind.i64.wrap ((BitVec.ofInt 64 x &&& BitVec.ofInt 64 31).toNat : Int) = _
  rw [BitVec.toNat_and, show (BitVec.ofInt 64 31).toNat = 31 from rfl]
  rw [IntKind.wrap_i64]
  omega
end Go.Proofs.YtlohpplpnddfaaaDoor
namespace Go.Proofs.YtlohpplpnddfaaaDoor
open Go.RowKit Go.Sort

set_option maxRecDepth 100000 in
set_option maxHeartbeats 6400000 in
theorem nests_any (n : Int) (w : World) (hg : Laid w) : Calls Tryd.prog 19 #[.int .i64 n] w (Ans (.bool true) w) := by
  have HL := Lib.hid hg
  have HL1 := Lib.hid (fun (W : World) (h : Below w.heap.size w W) => hg.below h hg.pos)
  have hm1 := cell_alloc_lt
  obtain ⟨k, hk, hx⟩ := and31 n
  clear hg
  go_enter Tryd.func19, Tryd.ntmps19
  repeat (first | go_values | go_skip | go_guarded | go_step | go_upon)
  refine (small4_any _ HL.out).mono ?_
  rintro e w1 ⟨rfl, hb1⟩
  obtain ⟨hc1, hf1⟩ := bcell hb1
  have hz1 := hb1.size
  try simp at hz1
  dsimp only
  repeat (first | go_values | go_skip | go_guarded | go_step | go_upon)
  go_loop [5, 6] (fun s t => ∃ (i : Nat) (T : ByteArray), t = .int .i64 (i : Int) ∧ s = .string T ∧ i ≤ k ∧ Hid (bl T = [97, 32, 60, 45, 32] ++ List.replicate i 40)) (fun _ t => k - (intOf t).toNat)
  case atStart => exact ⟨0, ⟨#[97, 32, 60, 45, 32]⟩, rfl, rfl, Nat.zero_le _, Lib.hid rfl⟩
  case round =>
    obtain ⟨i, T, rfl, rfl, hi, hT⟩ := hrel
    have hT5 : T.size = 5 + i := by rw [← bl_length, hT.out]; simp; omega
    rcases Nat.lt_or_ge i k with hlt | hge
    · have d1 : decide ((i : Int) < (k : Int)) = true := by simp; omega
      have HX := Lib.hid (show bl (T ++ ⟨#[40]⟩) = [97, 32, 60, 45, 32] ++ List.replicate (i + 1) 40 by rw [bl_app, hT.out, List.replicate_succ', show bl ⟨#[40]⟩ = [40] from rfl, List.append_assoc])
      have k5 : IntKind.i64.wrap ((i : Int) + 1) = (i : Int) + 1 := by rw [IntKind.wrap_i64]; omega
      repeat (first | go_values | go_skip | go_guarded | go_step | go_upon)
      exact ⟨⟨i + 1, _, by go_num, rfl, by omega, HX⟩, by simp [intOf]; omega⟩
    · obtain rfl : i = k := by omega
      have d1 : decide ((i : Int) < (i : Int)) = false := by simp
      have HX := Lib.hid (show bl (T ++ ⟨#[39, 120, 39]⟩) = [97, 32, 60, 45, 32] ++ (List.replicate i 40 ++ ([39, 120, 39] ++ List.replicate 0 41)) by rw [bl_app, hT.out, show bl ⟨#[39, 120, 39]⟩ = [39, 120, 39] from rfl]; simp)
      clear hT
      repeat (first | go_values | go_skip | go_guarded | go_step | go_upon)
      go_loop [5, 7] (fun s t => ∃ (j : Nat) (T : ByteArray), t = .int .i64 (j : Int) ∧ s = .string T ∧ j ≤ i ∧ Hid (bl T = [97, 32, 60, 45, 32] ++ (List.replicate i 40 ++ ([39, 120, 39] ++ List.replicate j 41)))) (fun _ t => i - (intOf t).toNat)
      case atStart => exact ⟨0, _, rfl, rfl, Nat.zero_le _, HX⟩
      case round =>
        obtain ⟨j, T2, rfl, rfl, hj, hT2⟩ := hrel
        have hT8 : T2.size = 8 + i + j := by rw [← bl_length, hT2.out]; simp; omega
        rcases Nat.lt_or_ge j i with hlt | hge
        · have d1 : decide ((j : Int) < (i : Int)) = true := by simp; omega
          have HX := Lib.hid (show bl (T2 ++ ⟨#[41]⟩) = [97, 32, 60, 45, 32] ++ (List.replicate i 40 ++ ([39, 120, 39] ++ List.replicate (j + 1) 41)) by rw [bl_app, hT2.out, List.replicate_succ', show bl ⟨#[41]⟩ = [41] from rfl]; simp)
          have k5 : IntKind.i64.wrap ((j : Int) + 1) = (j : Int) + 1 := by rw [IntKind.wrap_i64]; omega
          repeat (first | go_values | go_skip | go_guarded | go_step | go_upon)
          exact ⟨⟨j + 1, _, by go_num, rfl, by omega, HX⟩, by simp [intOf]; omega⟩
        · obtain rfl : j = i := by omega
          have d1 : decide ((j : Int) < (j : Int)) = false := by simp
          have hTz : T2.size ≤ 140737488355328 := by omega
          have HT := Lib.hid (show bl T2 = nestL j from hT2.out)
          clear hT2 hT8
          by_cases h24 : 24 < j
          · have d2 : decide ((24 : Int) < (j : Int)) = true := by simp; omega
            repeat (first | go_values | go_skip | go_guarded | go_step | go_upon)
            refine (syn_inl T2 _ (HL1.out _ (by repeat (first | exact Below.refl _ _ | assumption | refine bal ?_ _ | refine bdr ?_ | refine bdrn ?_ _ | (refine bset ?_ (by first | exact Nat.le_refl _ | (simp; done) | (simp; omega) | omega) _) | refine bstep ?_ (by assumption)))) hTz (show Reads (bl T2) (.inl (2, 29)) by rw [HT.out]; exact nest_out h24 hk)).mono ?_
            rintro e w2 ⟨⟨p, rfl, hp, hl⟩, hb2⟩
            have HF := Lib.hid hp
            obtain ⟨hc2, hf2⟩ := bcell hb2
            have hz2 := hb2.size
            clear hp
            dsimp only
            have HW := Lib.hid (fun (W : World) (h : Below w2.heap.size w2 W) => HF.out.below h)
            repeat (first | go_values | go_skip | go_guarded | go_step | go_upon)
            refine (code_I (HL1.out _ (by repeat (first | exact Below.refl _ _ | assumption | refine bal ?_ _ | refine bdr ?_ | refine bdrn ?_ _ | (refine bset ?_ (by first | exact Nat.le_refl _ | (simp; done) | (simp; omega) | omega) _) | refine bstep ?_ (by assumption)))) (HW.out _ (by repeat (first | exact Below.refl _ _ | assumption | refine bal ?_ _ | refine bdr ?_ | refine bdrn ?_ _ | (refine bset ?_ (by first | exact Nat.le_refl _ | (simp; done) | (simp; omega) | omega) _) | refine bstep ?_ (by assumption)))) rfl).mono ?_
            rintro e w3 ⟨rfl, hb3⟩
            obtain ⟨hc3, hf3⟩ := bcell hb3
            have hz3 := hb3.size
            try simp at hz3
            have q3_0 : w2.heap.size < w3.heap.size := by omega
            dsimp only
            repeat (first | go_values | go_skip | go_guarded | go_step | go_upon)
            refine (at_I (HL1.out _ (by repeat (first | exact Below.refl _ _ | assumption | refine bal ?_ _ | refine bdr ?_ | refine bdrn ?_ _ | (refine bset ?_ (by first | exact Nat.le_refl _ | (simp; done) | (simp; omega) | omega) _) | refine bstep ?_ (by assumption)))) (HW.out _ (by repeat (first | exact Below.refl _ _ | assumption | refine bal ?_ _ | refine bdr ?_ | refine bdrn ?_ _ | (refine bset ?_ (by first | exact Nat.le_refl _ | (simp; done) | (simp; omega) | omega) _) | refine bstep ?_ (by assumption)))) rfl).mono ?_
            rintro e w4 ⟨rfl, hb4⟩
            obtain ⟨hc4, hf4⟩ := bcell hb4
            have hz4 := hb4.size
            try simp at hz4
            have q4_0 : w2.heap.size < w4.heap.size := by omega
            dsimp only
            repeat (first | go_values | go_skip | go_guarded | go_step | go_upon)
            go_ret
            exact ⟨rfl, (by repeat (first | exact Below.refl _ _ | assumption | refine bal ?_ _ | refine bdr ?_ | refine bdrn ?_ _ | (refine bset ?_ (by first | exact Nat.le_refl _ | (simp; done) | (simp; omega) | omega) _) | refine bstep ?_ (by assumption)))⟩
          · have d2 : decide ((24 : Int) < (j : Int)) = false := by simp; omega
            repeat (first | go_values | go_skip | go_guarded | go_step | go_upon)
            refine (syn_inr T2 _ (HL1.out _ (by repeat (first | exact Below.refl _ _ | assumption | refine bal ?_ _ | refine bdr ?_ | refine bdrn ?_ _ | (refine bset ?_ (by first | exact Nat.le_refl _ | (simp; done) | (simp; omega) | omega) _) | refine bstep ?_ (by assumption)))) hTz (show Reads (bl T2) (.inr [⟨[97], .mk 2 [120] 0 [] (5 + j), 0⟩]) by rw [HT.out]; exact nest_in (by omega))).mono ?_
            rintro e w2 ⟨⟨v, rfl, hG⟩, hb2⟩
            obtain ⟨g, cap, cur, cs, rfl, hP, hh, hcap, hmax, ht, hr⟩ := hG.row (by simp)
            obtain ⟨_, _, _, _, _, _, q0, a9, a0, a1, a2, a3, a4, a5, a6, a7, a8⟩ := rule_cells rfl hh ht hr (k := 0) rfl
            obtain rfl := rep_kind q0
            have HB := Lib.hid hb2
            obtain ⟨hc2, hf2⟩ := bcell hb2
            have hz2 := hb2.size
            have qb := (Array.getElem?_eq_some_iff.1 hh).1
            have c1 : w2.cell? ⟨g, 1, none⟩ = some (.int .i64 2) := a0
            have c8 : w2.cell? ⟨g, 8, none⟩ = some (.int .i64 ((5 + j : Nat) : Int)) := a7
            have k6 : IntKind.i64.wrap (5 + (j : Int)) = ((5 + j : Nat) : Int) := by rw [IntKind.wrap_i64]; omega
            clear q0 a0 a1 a2 a3 a4 a5 a6 a7 a8 a9 hr hh ht hG
            dsimp only [List.length]
            repeat (first | go_values | go_skip | go_guarded | go_step | go_upon)
            go_ret
            exact ⟨rfl, (by repeat (first | exact Below.refl _ _ | assumption | refine bal ?_ _ | refine bdr ?_ | refine bdrn ?_ _ | (refine bset ?_ (by first | exact Nat.le_refl _ | (simp; done) | (simp; omega) | omega) _) | refine bstep ?_ (by assumption)))⟩
end Go.Proofs.YtlohpplpnddfaaaDoor
