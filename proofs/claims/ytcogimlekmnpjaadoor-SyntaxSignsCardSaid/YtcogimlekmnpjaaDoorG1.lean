/- Cutting a source into tokens: plain facts. | Walks of package class: what is done with classes. -/
import Derived.Test.YtcogimlekmnpjaaDoorG0
import Derived.Test.YtcogimlekmnpjaaDoorRows
namespace Go.Proofs.YtcogimlekmnpjaaDoor
open Go.RowKit

/-- Bytes as a string. -/
def mkS (l : List UInt8) : ByteArray := ⟨l.toArray⟩
theorem mkS_size (l : List UInt8) : (mkS l).size = l.length := by simp [mkS, ByteArray.size]
theorem mkS_data (l : List UInt8) : (mkS l).data.toList = l := by simp [mkS]
/-- A token. -/
structure Tok where
  kind : Nat
  text : List UInt8
  cls : BitVec 256
  pos : Nat
/-- Letters, digits. -/
def isLet (b : Nat) : Bool := (65 ≤ b && b ≤ 90) || (97 ≤ b && b ≤ 122) || b == 95
def isDig (b : Nat) : Bool := 48 ≤ b && b ≤ 57
/-- May that byte be the i-th one of a name? -/
def cont (i b : Nat) : Bool := isLet b || (i != 0 && isDig b)
/-- How many bytes of a name stand at a place, from the i-th one on. -/
def nameGo (s : List UInt8) (a : Nat) : Nat → Nat → Nat
  | 0, i => i
  | f + 1, i => if cont i (byteAt s (a + i)) then nameGo s a f (i + 1) else i
def nameLen (s : List UInt8) (a : Nat) : Nat := nameGo s a (s.length + 1) 0
/-- The signs. -/
def isSign (b : Nat) : Bool := b == 47 || b == 38 || b == 33 || b == 63 || b == 42 || b == 43 || b == 40 || b == 41 || b == 46
/-- What stands behind a backslash in a literal. -/
def lescAt (s : List UInt8) (a : Nat) : Got Nat :=
  if byteAt s a = 110 then .inr (10, a + 1) else if byteAt s a = 114 then .inr (13, a + 1) else if byteAt s a = 116 then .inr (9, a + 1)
  else if byteAt s a = 92 ∨ byteAt s a = 34 ∨ byteAt s a = 39 then .inr (byteAt s a, a + 1) else if byteAt s a = 120 then hexAt s (a + 1) else .inl (wrongAt s a)
/-- A byte of a literal. -/
def lchAt (s : List UInt8) (a : Nat) : Got Nat :=
  if byteAt s a = 92 then lescAt s (a + 1) else if byteAt s a < 32 ∨ 126 < byteAt s a then .inl (4, a) else .inr (byteAt s a, a + 1)
/-- The rest of a literal that began at st with the quote q. -/
def litGo (s : List UInt8) (q st : Nat) : Nat → Nat → List UInt8 → Got (List UInt8)
  | 0, a, _ => .inl (3, a)
  | f + 1, a, l => if s.length ≤ a then .inl (3, s.length) else if byteAt s a = q then .inr (l, a + 1) else match lchAt s a with
    | .inl e => .inl e
    | .inr (c, n) => if l.length = 255 then .inl (2, st) else litGo s q st f n (l ++ [c.toUInt8])
/-- A token at a place where no blank stands. -/
def tokAt (s : List UInt8) (a : Nat) : Got Tok :=
  if 32 < nameLen s a then .inl (2, a)
  else if 0 < nameLen s a then .inr (⟨1, (s.drop a).take (nameLen s a), 0, a⟩, a + nameLen s a)
  else if isSign (byteAt s a) then .inr (⟨5, [(byteAt s a).toUInt8], 0, a⟩, a + 1)
  else if byteAt s a = 60 ∧ byteAt s (a + 1) = 45 then .inr (⟨2, [], 0, a⟩, a + 2)
  else if byteAt s a = 39 ∨ byteAt s a = 34 then match litGo s (byteAt s a) a (s.length + 1) (a + 1) [] with
    | .inl e => .inl e
    | .inr (l, n) => .inr (⟨3, l, 0, a⟩, n)
  else if byteAt s a = 91 then match parsed (s.drop a) with
    | .inl (e, n) => .inl (e, a + n)
    | .inr (c, n) => .inr (⟨4, [], c, a⟩, a + n)
  else .inl (4, a)
/-- Where a note ends. -/
def noteEnd (s : List UInt8) (a : Nat) : Nat := if 0 ≤ Lib.indexByte (s.drop a) 10 then a + (Lib.indexByte (s.drop a) 10).toNat else s.length
def isBlank (b : Nat) : Bool := b == 9 || b == 10 || b == 13 || b == 32
/-- The tokens from a place on. -/
def toksGo (s : List UInt8) : Nat → Nat → List Tok → (Nat × Nat) ⊕ List Tok
  | 0, a, _ => .inl (3, a)
  | f + 1, a, l => if s.length ≤ a then .inr (l ++ [⟨6, [], 0, s.length⟩])
    else if byteAt s a = 35 then toksGo s f (noteEnd s a) l
    else if isBlank (byteAt s a) then toksGo s f (a + 1) l
    else match tokAt s a with
      | .inl e => .inl e
      | .inr (t, n) => toksGo s f n (l ++ [t])
/-- The tokens of a source of at most 8192 bytes. -/
def toks (s : List UInt8) : (Nat × Nat) ⊕ List Tok := toksGo s (2 * s.length + 2) 0 []

theorem indexByte_none {l : List UInt8} {c : UInt8} : Lib.indexByte l c = -1 → ∀ i : Nat, l[i]? ≠ some c := by
  induction l with
  | nil => intro _ i; simp
  | cons b l ih =>
    intro h i
    unfold Lib.indexByte at h
    split at h
    · cases h
    · split at h
      · next hb h2 =>
        have h3 := ih (eq_of_beq h2)
        cases i with
        | zero => simp; intro e; subst e; simp at hb
        | succ i => simpa using h3 i
      · have := Lib.indexByte_ge l c; omega
theorem indexByte_some {l : List UInt8} {c : UInt8} {n : Nat} : Lib.indexByte l c = n → l[n]? = some c ∧ ∀ i : Nat, i < n → l[i]? ≠ some c := by
  induction l generalizing n with
  | nil => intro h; simp [Lib.indexByte] at h
  | cons b l ih =>
    intro h
    unfold Lib.indexByte at h
    split at h
    · next hb =>
      obtain rfl : n = 0 := by omega
      exact ⟨by simpa using eq_of_beq hb, fun i hi => by omega⟩
    · split at h
      · omega
      · next hb h2 =>
        have := Lib.indexByte_ge l c
        have h2' : Lib.indexByte l c ≠ -1 := by simpa using h2
        obtain ⟨m, rfl⟩ : ∃ m, n = m + 1 := ⟨n - 1, by omega⟩
        have h3 := ih (n := m) (by omega)
        refine ⟨by simpa using h3.1, ?_⟩
        intro i hi
        cases i with
        | zero => simp; intro e; subst e; simp at hb
        | succ i => simpa using h3.2 i (by omega)
theorem noteEnd_bd {s : List UInt8} {a : Nat} (h : a < s.length) (hb : byteAt s a ≠ 10) : a < noteEnd s a ∧ noteEnd s a ≤ s.length := by
  unfold noteEnd
  split
  · next h0 =>
    obtain ⟨n, hn⟩ := Int.eq_ofNat_of_zero_le h0
    rw [hn]
    have h1 := (indexByte_some hn).1
    have h2 : n ≠ 0 := by
      rintro rfl
      apply hb
      rw [List.getElem?_drop, Nat.add_zero] at h1
      rw [byteAt, h1]
      rfl
    have h3 : n < (s.drop a).length := by
      rcases Nat.lt_or_ge n (s.drop a).length with h | h
      · exact h
      · rw [List.getElem?_eq_none h] at h1; cases h1
    simp at h3
    simp
    omega
  · omega
theorem cont_in {i b : Nat} (h : cont i b = true) : b < 256 := by
  simp [cont, isLet, isDig] at h; omega
theorem nameGo_spec (s : List UInt8) (a : Nat) : ∀ (f i : Nat), i ≤ nameGo s a f i ∧ (∀ j, i ≤ j → j < nameGo s a f i → cont j (byteAt s (a + j)) = true) ∧ (s.length + 1 ≤ a + i + f → cont (nameGo s a f i) (byteAt s (a + nameGo s a f i)) = false) := by
  intro f
  induction f with
  | zero =>
    intro i
    refine ⟨Nat.le_refl _, fun j h1 h2 => by rw [nameGo] at h2; omega, fun h => ?_⟩
    rw [nameGo, byteAt_ge (by omega)]
    simp [cont, isLet, isDig]
  | succ f ih =>
    intro i
    rw [nameGo]
    split
    · next hc =>
      have h := ih (i + 1)
      refine ⟨by omega, fun j h1 h2 => ?_, fun h4 => h.2.2 (by omega)⟩
      by_cases e : j = i
      · subst e; exact hc
      · exact h.2.1 j (by omega) h2
    · next hc => exact ⟨Nat.le_refl _, fun j h1 h2 => by omega, fun _ => by simpa using hc⟩
theorem nameLen_spec (s : List UInt8) (a : Nat) : (∀ j, j < nameLen s a → cont j (byteAt s (a + j)) = true) ∧ cont (nameLen s a) (byteAt s (a + nameLen s a)) = false := by
  have h := nameGo_spec s a (s.length + 1) 0
  exact ⟨fun j hj => h.2.1 j (by omega) hj, h.2.2 (by omega)⟩
/-- A length that a name has is the name's. -/
theorem nameLen_is {s : List UInt8} {a n : Nat} (h1 : ∀ j, j < n → cont j (byteAt s (a + j)) = true) (h2 : cont n (byteAt s (a + n)) = false) : nameLen s a = n := by
  have h := nameLen_spec s a
  rcases Nat.lt_trichotomy (nameLen s a) n with e | e | e
  · have := h1 _ e; rw [h.2] at this; cases this
  · exact e
  · have := h.1 _ e; rw [h2] at this; cases this
theorem nameLen_in (s : List UInt8) (a : Nat) (ha : a ≤ s.length) : a + nameLen s a ≤ s.length := by
  have h := (nameLen_spec s a).1
  rcases Nat.eq_zero_or_pos (nameLen s a) with e | e
  · omega
  · have := byteAt_in (cont_in (h (nameLen s a - 1) (by omega))); omega
theorem lescAt_bd {s : List UInt8} {a c n : Nat} (e : lescAt s a = .inr (c, n)) : c < 256 ∧ a < n ∧ n ≤ s.length := by
  unfold lescAt at e
  have hb := @byteAt_in s a
  split at e
  · simp at e; omega
  split at e
  · simp at e; omega
  split at e
  · simp at e; omega
  split at e
  · simp at e; omega
  split at e
  · have := hexAt_bd e; omega
  · cases e
theorem lchAt_bd {s : List UInt8} {a c n : Nat} (e : lchAt s a = .inr (c, n)) : c < 256 ∧ a < n ∧ n ≤ s.length := by
  unfold lchAt at e
  have hb := @byteAt_in s a
  split at e
  · have := lescAt_bd e; omega
  split at e
  · cases e
  · simp at e; omega
theorem litGo_bd {s : List UInt8} {q st : Nat} : ∀ {f a n : Nat} {l m : List UInt8}, litGo s q st f a l = .inr (m, n) → a < n ∧ n ≤ s.length := by
  intro f
  induction f with
  | zero => intro a n l m h; cases h
  | succ f ih =>
    intro a n l m h
    rw [litGo] at h
    split at h
    · cases h
    split at h
    · simp at h; omega
    split at h
    · cases h
    · next c k e =>
      have := lchAt_bd e
      split at h
      · cases h
      · have := ih h; omega
theorem parsed_bd {s : List UInt8} {c : BitVec 256} {n : Nat} (h : parsed s = .inr (c, n)) : 1 < n ∧ n ≤ s.length := by
  unfold parsed at h
  split at h
  · split at h
    · split at h
      · cases h
      · next e => simp at h; have := memsAt_bd e; omega
    · have := memsAt_bd h; omega
  · cases h
theorem tokAt_bd {s : List UInt8} {a n : Nat} {t : Tok} (ha : a < s.length) (e : tokAt s a = .inr (t, n)) : a < n ∧ n ≤ s.length ∧ t.pos = a := by
  unfold tokAt at e
  have hn := nameLen_in s a (by omega)
  split at e
  · cases e
  split at e
  · simp at e; obtain ⟨e1, e2⟩ := e; subst e1; simp; omega
  split at e
  · simp at e; obtain ⟨e1, e2⟩ := e; subst e1; simp; omega
  split at e
  · next h => have := byteAt_in (s := s) (a := a + 1) (by omega); simp at e; obtain ⟨e1, e2⟩ := e; subst e1; simp; omega
  split at e
  · split at e
    · cases e
    · next l m h => have := litGo_bd h; simp at e; obtain ⟨e1, e2⟩ := e; subst e1; simp; omega
  split at e
  · split at e
    · cases e
    · next c m h => have := parsed_bd h; simp at this; simp at e; obtain ⟨e1, e2⟩ := e; subst e1; simp; omega
  · cases e
theorem wrongAt_le (s : List UInt8) (a : Nat) : (wrongAt s a).2 ≤ s.length := by
  unfold wrongAt; split <;> simp <;> omega
theorem wrong_le {s : List UInt8} {a e n : Nat} (h : wrongAt s a = (e, n)) : n ≤ s.length := by have := wrongAt_le s a; rw [h] at this; exact this
theorem lowAt_le {s : List UInt8} {h a e n : Nat} (g : lowAt s h a = .inl (e, n)) : n ≤ s.length := by
  unfold lowAt at g
  split at g
  · exact wrong_le (Sum.inl.inj g)
  · cases g
theorem hexAt_le {s : List UInt8} {a e n : Nat} (g : hexAt s a = .inl (e, n)) : n ≤ s.length := by
  unfold hexAt at g
  split at g
  · exact wrong_le (Sum.inl.inj g)
  · exact lowAt_le g
theorem escAt_le {s : List UInt8} {a e n : Nat} (g : escAt s a = .inl (e, n)) : n ≤ s.length := by
  unfold escAt at g
  split at g
  · cases g
  split at g
  · cases g
  split at g
  · cases g
  split at g
  · cases g
  split at g
  · exact hexAt_le g
  · exact wrong_le (Sum.inl.inj g)
theorem sgnAt_le {s : List UInt8} {a e n : Nat} (g : sgnAt s a = .inl (e, n)) : n ≤ s.length := by
  unfold sgnAt at g
  split at g
  · exact escAt_le g
  split at g
  · exact wrong_le (Sum.inl.inj g)
  · cases g
theorem memAt_le {s : List UInt8} {a e n : Nat} (ha : a ≤ s.length) (g : memAt s a = .inl (e, n)) : n ≤ s.length := by
  unfold memAt at g
  split at g
  · next h => rw [Sum.inl.inj g] at h; exact sgnAt_le h
  · split at g
    · next h =>
      rw [Sum.inl.inj g] at h
      unfold hiAt at h
      split at h
      · exact sgnAt_le h
      · cases h
    · split at g
      · simp at g; omega
      · cases g
theorem memsAt_le {s : List UInt8} : ∀ {f a e n : Nat} {c : BitVec 256}, a ≤ s.length → memsAt s f a c = .inl (e, n) → n ≤ s.length := by
  intro f
  induction f with
  | zero => intro a e n c ha g; simp [memsAt] at g; omega
  | succ f ih =>
    intro a e n c ha g
    rw [memsAt] at g
    split at g
    · cases g
    · split at g
      · next h => rw [Sum.inl.inj g] at h; exact memAt_le ha h
      · next h => exact ih (memAt_bd h).2 g
theorem parsed_le {s : List UInt8} {e n : Nat} (g : parsed s = .inl (e, n)) : n ≤ s.length := by
  unfold parsed at g
  split at g
  · next h0 =>
    have l0 := byteAt_in (s := s) (a := 0) (by omega)
    split at g
    · next h1 =>
      have l1 := byteAt_in (s := s) (a := 1) (by omega)
      split at g
      · next h => rw [Sum.inl.inj g] at h; exact memsAt_le (by omega) h
      · cases g
    · exact memsAt_le (by omega) g
  · exact wrong_le (Sum.inl.inj g)
end Go.Proofs.YtcogimlekmnpjaaDoor
namespace Go.Proofs.YtcogimlekmnpjaaDoor
open Go.RowKit Go.Sort

set_option maxHeartbeats 800000 in
theorem either_any (c d : BitVec 256) (w : World) :
    Calls Tryd.prog 45 #[.agg #[.int .u64 (wd c 0), .int .u64 (wd c 1), .int .u64 (wd c 2), .int .u64 (wd c 3)], .agg #[.int .u64 (wd d 0), .int .u64 (wd d 1), .int .u64 (wd d 2), .int .u64 (wd d 3)]] w (Ans (.agg #[.int .u64 (wd (c ||| d) 0), .int .u64 (wd (c ||| d) 1), .int .u64 (wd (c ||| d) 2), .int .u64 (wd (c ||| d) 3)]) w) := by
  have ha := or_wd c d
  go_enter Tryd.func45, Tryd.ntmps45
  go_wp2
  refine wp_loop_rounds 5 ?_
  rw [rounds_succ]
  go_wp2
  go_region
  go_wp2
  rw [rounds_succ]
  go_wp2
  go_region
  go_wp2
  rw [rounds_succ]
  go_wp2
  go_region
  go_wp2
  rw [rounds_succ]
  go_wp2
  go_region
  go_wp2
  rw [rounds_succ]
  go_wp2
  exact bodyPost_ret (v := .agg #[.int .u64 (wd (c ||| d) 0), .int .u64 (wd (c ||| d) 1), .int .u64 (wd (c ||| d) 2), .int .u64 (wd (c ||| d) 3)]) (by simp [results, Tryd.results45, go_sem]) rfl ⟨rfl, (by repeat (first | exact Below.refl _ _ | assumption | refine bal ?_ _ | refine bdr ?_ | refine bdrn ?_ _ | (refine bset ?_ (by first | exact Nat.le_refl _ | (simp; done) | (simp; omega) | omega) _) | refine bstep ?_ (by assumption)))⟩

set_option maxHeartbeats 800000 in
theorem not_any (c : BitVec 256) (w : World) :
    Calls Tryd.prog 46 #[.agg #[.int .u64 (wd c 0), .int .u64 (wd c 1), .int .u64 (wd c 2), .int .u64 (wd c 3)]] w (Ans (.agg #[.int .u64 (wd (~~~c) 0), .int .u64 (wd (~~~c) 1), .int .u64 (wd (~~~c) 2), .int .u64 (wd (~~~c) 3)]) w) := by
  have n0 := not_wd c 0 (by decide)
  have n1 := not_wd c 1 (by decide)
  have n2 := not_wd c 2 (by decide)
  have n3 := not_wd c 3 (by decide)
  have hs : ¬ IntKind.u64.signed = true := by decide
  go_enter Tryd.func46, Tryd.ntmps46
  go_wp2
  refine wp_loop_rounds 5 ?_
  rw [rounds_succ]
  go_wp2
  rw [rounds_succ]
  go_wp2
  rw [rounds_succ]
  go_wp2
  rw [rounds_succ]
  go_wp2
  rw [rounds_succ]
  go_wp2
  exact bodyPost_ret (v := .agg #[.int .u64 (wd (~~~c) 0), .int .u64 (wd (~~~c) 1), .int .u64 (wd (~~~c) 2), .int .u64 (wd (~~~c) 3)]) (by simp [results, Tryd.results46, go_sem]) rfl ⟨rfl, (by repeat (first | exact Below.refl _ _ | assumption | refine bal ?_ _ | refine bdr ?_ | refine bdrn ?_ _ | (refine bset ?_ (by first | exact Nat.le_refl _ | (simp; done) | (simp; omega) | omega) _) | refine bstep ?_ (by assumption)))⟩

set_option maxRecDepth 100000 in
set_option maxHeartbeats 800000 in
theorem span_any (lo hi : Nat) (w : World) (h0 : lo ≤ hi) (h1 : hi ≤ 255) :
    Calls Tryd.prog 55 #[.int .i64 lo, .int .i64 hi] w (Ans (.agg #[.int .u64 (wd (rng lo hi) 0), .int .u64 (wd (rng lo hi) 1), .int .u64 (wd (rng lo hi) 2), .int .u64 (wd (rng lo hi) 3)]) w) := by
  go_enter Tryd.func55, Tryd.ntmps55
  go_wp2
  go_loopw [8] (fun t wr => ∃ k : Nat, k ≤ 4 ∧ t = .int .i64 k ∧ wr = w.alloc (.cells #[.int .u64 (sw (rng lo hi) 0 k), .int .u64 (sw (rng lo hi) 1 k), .int .u64 (sw (rng lo hi) 2 k), .int .u64 (sw (rng lo hi) 3 k)] 33)) (fun t _ => 4 - (intOf t).toNat)
  case atStart => exact ⟨0, by omega, rfl, by simp [sw]⟩
  case round =>
    obtain ⟨k, hk, rfl, rfl⟩ := hrel
    match k, hk with
    | 0, _ =>
      by_cases c1 : hi < 0
      · go_wp2
        all_goals first | omega | exact ⟨⟨1, by omega, rfl, by rw [sw_out _ _ (wd_rng_out lo hi 0 (by omega) h1 (by omega)), sw_step (rng lo hi) (j := 1) (k := 0) (by decide), sw_step (rng lo hi) (j := 2) (k := 0) (by decide), sw_step (rng lo hi) (j := 3) (k := 0) (by decide)]⟩, by simp [intOf]⟩
      · by_cases c2 : 63 < lo
        · go_wp2
          all_goals first | omega | exact ⟨⟨1, by omega, rfl, by rw [sw_out _ _ (wd_rng_out lo hi 0 (by omega) h1 (by omega)), sw_step (rng lo hi) (j := 1) (k := 0) (by decide), sw_step (rng lo hi) (j := 2) (k := 0) (by decide), sw_step (rng lo hi) (j := 3) (k := 0) (by decide)]⟩, by simp [intOf]⟩
        · go_wp2
          refine ⟨⟨1, by omega, rfl, ?_⟩, by simp [intOf]⟩
          rw [sw_lt (rng lo hi) (show 0 < 1 by decide), sw_step (rng lo hi) (j := 1) (k := 0) (by decide), sw_step (rng lo hi) (j := 2) (k := 0) (by decide), sw_step (rng lo hi) (j := 3) (k := 0) (by decide), wd_rng lo hi 0 _ _ (by decide) (by omega) (by omega) h0 h1 ?_ ?_]
          all_goals ((repeat' split) <;> omega)
    | 1, _ =>
      by_cases c1 : hi < 64
      · go_wp2
        all_goals first | omega | exact ⟨⟨2, by omega, rfl, by rw [sw_out _ _ (wd_rng_out lo hi 1 (by omega) h1 (by omega)), sw_step (rng lo hi) (j := 0) (k := 1) (by decide), sw_step (rng lo hi) (j := 2) (k := 1) (by decide), sw_step (rng lo hi) (j := 3) (k := 1) (by decide)]⟩, by simp [intOf]⟩
      · by_cases c2 : 127 < lo
        · go_wp2
          all_goals first | omega | exact ⟨⟨2, by omega, rfl, by rw [sw_out _ _ (wd_rng_out lo hi 1 (by omega) h1 (by omega)), sw_step (rng lo hi) (j := 0) (k := 1) (by decide), sw_step (rng lo hi) (j := 2) (k := 1) (by decide), sw_step (rng lo hi) (j := 3) (k := 1) (by decide)]⟩, by simp [intOf]⟩
        · go_wp2
          refine ⟨⟨2, by omega, rfl, ?_⟩, by simp [intOf]⟩
          rw [sw_lt (rng lo hi) (show 1 < 2 by decide), sw_step (rng lo hi) (j := 0) (k := 1) (by decide), sw_step (rng lo hi) (j := 2) (k := 1) (by decide), sw_step (rng lo hi) (j := 3) (k := 1) (by decide), wd_rng lo hi 1 _ _ (by decide) (by omega) (by omega) h0 h1 ?_ ?_]
          all_goals ((repeat' split) <;> omega)
    | 2, _ =>
      by_cases c1 : hi < 128
      · go_wp2
        all_goals first | omega | exact ⟨⟨3, by omega, rfl, by rw [sw_out _ _ (wd_rng_out lo hi 2 (by omega) h1 (by omega)), sw_step (rng lo hi) (j := 0) (k := 2) (by decide), sw_step (rng lo hi) (j := 1) (k := 2) (by decide), sw_step (rng lo hi) (j := 3) (k := 2) (by decide)]⟩, by simp [intOf]⟩
      · by_cases c2 : 191 < lo
        · go_wp2
          all_goals first | omega | exact ⟨⟨3, by omega, rfl, by rw [sw_out _ _ (wd_rng_out lo hi 2 (by omega) h1 (by omega)), sw_step (rng lo hi) (j := 0) (k := 2) (by decide), sw_step (rng lo hi) (j := 1) (k := 2) (by decide), sw_step (rng lo hi) (j := 3) (k := 2) (by decide)]⟩, by simp [intOf]⟩
        · go_wp2
          refine ⟨⟨3, by omega, rfl, ?_⟩, by simp [intOf]⟩
          rw [sw_lt (rng lo hi) (show 2 < 3 by decide), sw_step (rng lo hi) (j := 0) (k := 2) (by decide), sw_step (rng lo hi) (j := 1) (k := 2) (by decide), sw_step (rng lo hi) (j := 3) (k := 2) (by decide), wd_rng lo hi 2 _ _ (by decide) (by omega) (by omega) h0 h1 ?_ ?_]
          all_goals ((repeat' split) <;> omega)
    | 3, _ =>
      by_cases c1 : hi < 192
      · go_wp2
        all_goals first | omega | exact ⟨⟨4, by omega, rfl, by rw [sw_out _ _ (wd_rng_out lo hi 3 (by omega) h1 (by omega)), sw_step (rng lo hi) (j := 0) (k := 3) (by decide), sw_step (rng lo hi) (j := 1) (k := 3) (by decide), sw_step (rng lo hi) (j := 2) (k := 3) (by decide)]⟩, by simp [intOf]⟩
      · by_cases c2 : 255 < lo
        · go_wp2
          all_goals first | omega | exact ⟨⟨4, by omega, rfl, by rw [sw_out _ _ (wd_rng_out lo hi 3 (by omega) h1 (by omega)), sw_step (rng lo hi) (j := 0) (k := 3) (by decide), sw_step (rng lo hi) (j := 1) (k := 3) (by decide), sw_step (rng lo hi) (j := 2) (k := 3) (by decide)]⟩, by simp [intOf]⟩
        · go_wp2
          refine ⟨⟨4, by omega, rfl, ?_⟩, by simp [intOf]⟩
          rw [sw_lt (rng lo hi) (show 3 < 4 by decide), sw_step (rng lo hi) (j := 0) (k := 3) (by decide), sw_step (rng lo hi) (j := 1) (k := 3) (by decide), sw_step (rng lo hi) (j := 2) (k := 3) (by decide), wd_rng lo hi 3 _ _ (by decide) (by omega) (by omega) h0 h1 ?_ ?_]
          all_goals ((repeat' split) <;> omega)
    | 4, _ =>
      rw [sw_lt _ (by omega : 0 < 4), sw_lt _ (by omega : 1 < 4), sw_lt _ (by omega : 2 < 4), sw_lt _ (by omega : 3 < 4)]
      go_wp2
      exact bodyPost_ret (v := .agg #[.int .u64 (wd (rng lo hi) 0), .int .u64 (wd (rng lo hi) 1), .int .u64 (wd (rng lo hi) 2), .int .u64 (wd (rng lo hi) 3)]) (by simp [results, Tryd.results55, go_sem]) rfl ⟨rfl, (by repeat (first | exact Below.refl _ _ | assumption | refine bal ?_ _ | refine bdr ?_ | refine bdrn ?_ _ | (refine bset ?_ (by first | exact Nat.le_refl _ | (simp; done) | (simp; omega) | omega) _) | refine bstep ?_ (by assumption)))⟩

theorem span_call (lo hi : Int) (w : World) (h : 0 ≤ lo) (h0 : lo ≤ hi) (h1 : hi ≤ 255) :
    Calls Tryd.prog 55 #[.int .i64 lo, .int .i64 hi] w (Ans (.agg #[.int .u64 (wd (rng lo.toNat hi.toNat) 0), .int .u64 (wd (rng lo.toNat hi.toNat) 1), .int .u64 (wd (rng lo.toNat hi.toNat) 2), .int .u64 (wd (rng lo.toNat hi.toNat) 3)]) w) := by
  obtain ⟨a, rfl⟩ := Int.eq_ofNat_of_zero_le h
  obtain ⟨b, rfl⟩ := Int.eq_ofNat_of_zero_le (show 0 ≤ hi by omega)
  exact span_any a b w (by omega) (by omega)

end Go.Proofs.YtcogimlekmnpjaaDoor
