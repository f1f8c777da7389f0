/- A class's text is read as the class; a beginning of what is read as a class ends too early: plain. | What was quoted is one token: plain. -/
import Derived.Test.YtjlcoldnhbkcgaaGreatDoorG0
import Derived.Test.YtjlcoldnhbkcgaaGreatDoorG9
import Derived.Test.YtjlcoldnhbkcgaaGreatDoorG17
import Derived.Test.YtjlcoldnhbkcgaaGreatDoorG1
namespace Go.Proofs.YtjlcoldnhbkcgaaGreatDoor
open Go.RowKit

theorem byteAt_drop (s : List UInt8) (a i : Nat) : byteAt (s.drop a) i = byteAt s (a + i) := by simp [byteAt]
theorem byteAt_here {s l : List UInt8} {a : Nat} (h : s.drop a = l) : byteAt s a = byteAt l 0 := by rw [← h, byteAt_drop]; rfl
theorem byteAt_on {s l : List UInt8} {a : Nat} (h : s.drop a = l) (i : Nat) : byteAt s (a + i) = byteAt l i := by rw [← h, byteAt_drop]
theorem drop_on {s x l : List UInt8} {a n : Nat} (h : s.drop a = x ++ l) (hn : x.length = n) : s.drop (a + n) = l := by
  rw [← List.drop_drop, h, ← hn, List.drop_left]
theorem toU8 {b : Nat} (h : b < 256) : b.toUInt8.toNat = b := by simp; omega
theorem digV_hexd : ∀ n, n < 16 → digV (hexd n).toNat = n := by decide +kernel
theorem sgn_first : ∀ b, b < 256 → byteAt (sgn b) 0 ≠ 45 ∧ byteAt (sgn b) 0 ≠ 93 ∧ byteAt (sgn b) 0 ≠ 94 := by decide +kernel
theorem byteAt_app {x l : List UInt8} (h : 1 ≤ x.length) : byteAt (x ++ l) 0 = byteAt x 0 := by
  cases x with
  | nil => simp at h
  | cons y x => simp [byteAt]
theorem sgnAt_sgn {s post : List UInt8} {a b : Nat} (hb : b < 256) (h : s.drop a = sgn b ++ post) : sgnAt s a = .inr (b, a + (sgn b).length) := by
  have e0 := byteAt_here h
  have e1 := byteAt_on h 1
  have e2 := byteAt_on h 2
  have e3 := byteAt_on h 3
  clear h
  rcases sgn_kinds b hb with h | h | ⟨h, n1, n2, n3, l1, l2⟩ | ⟨h, n1, n2, n3, l⟩
  · rcases h with rfl | rfl | rfl
    all_goals
      simp [sgn, byteAt] at e0 e1
      simp [sgnAt, escAt, byteAt, e0, e1, sgn]
  · rcases five_list h with rfl | rfl | rfl | rfl | rfl
    all_goals
      simp [sgn, byteAt, fiveB] at e0 e1
      simp [sgnAt, escAt, byteAt, e0, e1, sgn, fiveB]
  · have hs := sgn_plain h n1 n2 n3 l1 l2
    have h92 : b ≠ 92 := by rintro rfl; simp [fiveB] at h
    have e4 : byteAt s a = b := by rw [e0, hs]; simp [byteAt]; omega
    rw [sgnAt, e4, hs, if_neg h92, if_neg (by simp [h]; omega)]
    rfl
  · have hs := sgn_hex h n1 n2 n3 l
    have k0 : byteAt s a = 92 := by rw [e0, hs]; rfl
    have k1 : byteAt s (a + 1) = 120 := by rw [e1, hs]; rfl
    have k2 : digV (byteAt s (a + 2)) = b / 16 := by
      rw [e2, hs]; exact digV_hexd (b / 16) (by omega)
    have k3 : digV (byteAt s (a + 3)) = b % 16 := by
      rw [e3, hs]; exact digV_hexd (b % 16) (by omega)
    rw [sgnAt, if_pos k0, escAt, k1, if_neg (by decide), if_neg (by decide), if_neg (by decide), if_neg (by decide), if_pos rfl, hexAt, k2, if_neg (by omega), lowAt, k3, if_neg (by omega), hs]
    have : 16 * (b / 16) + b % 16 = b := by omega
    rw [this]
    rfl
theorem mem_one {s post : List UInt8} {a b : Nat} (hb : b < 256) (h : s.drop a = sgn b ++ post) (hp : byteAt post 0 ≠ 45) : memAt s a = .inr (rng b b, a + (sgn b).length) := by
  have h1 := sgnAt_sgn hb h
  have h2 := byteAt_here (drop_on h rfl)
  have h3 : hiAt s b (a + (sgn b).length) = .inr (b, a + (sgn b).length) := by rw [hiAt, h2, if_neg hp]
  unfold memAt
  rw [h1]
  simp only
  rw [h3]
  simp
theorem mem_two {s post : List UInt8} {a lo hi : Nat} (hl : lo < 256) (hh : hi < 256) (hlo : lo ≤ hi) (h : s.drop a = sgn lo ++ (45 :: (sgn hi ++ post))) :
    memAt s a = .inr (rng lo hi, a + (sgn lo).length + 1 + (sgn hi).length) := by
  have h1 := sgnAt_sgn hl h
  have h2 := drop_on h rfl
  have h4 : byteAt s (a + (sgn lo).length) = 45 := by rw [byteAt_here h2]; rfl
  have h3 : hiAt s lo (a + (sgn lo).length) = .inr (hi, a + (sgn lo).length + 1 + (sgn hi).length) := by
    rw [hiAt, if_pos h4]
    exact sgnAt_sgn hh (drop_on (x := [45]) h2 rfl)
  unfold memAt
  rw [h1]
  simp only
  rw [h3]
  simp only
  rw [if_neg (by omega)]
/-- The rows' text. -/
def rowsT : List (Nat × Nat) → List UInt8
  | [] => []
  | p :: l => rowT p ++ rowsT l
theorem rowsT_snoc (l : List (Nat × Nat)) (p : Nat × Nat) : rowsT (l ++ [p]) = rowsT l ++ rowT p := by
  induction l with
  | nil => simp [rowsT]
  | cons q l ih => simp [rowsT, ih]
theorem txK_rows (l : List (Nat × Nat)) : ∀ k, k ≤ l.length → txK l k = 91 :: rowsT (l.take k) := by
  intro k
  induction k with
  | zero => intro _; rfl
  | succ k ih =>
    intro h
    rw [txK, ih (by omega), List.take_succ_eq_append_getElem (by omega), rowsT_snoc, List.getElem?_eq_getElem (by omega)]
    rfl
theorem txt_rows (c : BitVec 256) : txt c = 91 :: (rowsT (runs c) ++ [93]) := by
  rw [txt, txK_rows _ _ (Nat.le_refl _), List.take_length]; rfl
theorem rowsT_first (l : List (Nat × Nat)) (hl : ∀ p ∈ l, p.1 ≤ p.2 ∧ p.2 ≤ 255) (tail : List UInt8) : byteAt (rowsT l ++ 93 :: tail) 0 ≠ 45 ∧ byteAt (rowsT l ++ 93 :: tail) 0 ≠ 94 ∧ (l ≠ [] → byteAt (rowsT l ++ 93 :: tail) 0 ≠ 93) := by
  cases l with
  | nil => simp [rowsT, byteAt]
  | cons p l =>
    have hp := hl p List.mem_cons_self
    have hf := sgn_first p.1 (by omega)
    have := sgn_len p.1
    rw [rowsT, rowT, List.append_assoc, List.append_assoc, byteAt_app (by omega)]
    exact ⟨hf.1, hf.2.2, fun _ => hf.2.1⟩
theorem rng_two (lo : Nat) (h : lo + 1 ≤ 255) : rng lo lo ||| rng (lo + 1) (lo + 1) = rng lo (lo + 1) := by
  apply cl_ext
  intro k hk
  rw [Bool.eq_iff_iff, has_or, has_rng _ _ _ hk (by omega), has_rng _ _ _ hk (by omega), has_rng _ _ _ hk h]
  simp
  omega
theorem mems_step {s : List UInt8} {f a n : Nat} {c m : BitVec 256} (h : byteAt s a ≠ 93) (hm : memAt s a = .inr (m, n)) : memsAt s (f + 1) a c = memsAt s f n (c ||| m) := by
  rw [memsAt, if_neg h, hm]
theorem mems_rows {s tail : List UInt8} : ∀ (l : List (Nat × Nat)) (f a : Nat) (c : BitVec 256), (∀ p ∈ l, p.1 ≤ p.2 ∧ p.2 ≤ 255) → s.drop a = rowsT l ++ 93 :: tail → (rowsT l).length < f →
    memsAt s f a c = .inr (c ||| uni l, a + (rowsT l).length + 1) := by
  intro l
  induction l with
  | nil =>
    intro f a c _ h hf
    obtain ⟨f, rfl⟩ : ∃ g, f = g + 1 := ⟨f - 1, by omega⟩
    have h0 : byteAt s a = 93 := by rw [byteAt_here h]; rfl
    rw [memsAt, if_pos h0]
    simp [uni, rowsT]
  | cons p l ih =>
    intro f a c hl h hf
    have hp := hl p List.mem_cons_self
    have hl2 : ∀ q ∈ l, q.1 ≤ q.2 ∧ q.2 ≤ 255 := fun q hq => hl q (List.mem_cons_of_mem _ hq)
    have hn := rowsT_first l hl2 tail
    have h93 : byteAt s a ≠ 93 := by rw [byteAt_here h]; exact (rowsT_first (p :: l) hl tail).2.2 (by simp)
    have s1 := sgn_len p.1
    have s2 := sgn_len p.2
    obtain ⟨f, rfl⟩ : ∃ g, f = g + 1 := ⟨f - 1, by omega⟩
    rw [rowsT, List.append_assoc, rowT] at h
    simp only [rowsT, rowT, List.length_append] at hf
    have hkk : p.2 = p.1 ∨ p.2 = p.1 + 1 ∨ p.1 + 1 < p.2 := by omega
    rcases hkk with hkk | hkk | hkk
    · rw [if_neg (by omega), if_neg (by omega)] at h hf
      simp at h hf
      rw [mems_step h93 (mem_one (by omega) h hn.1), ih f _ _ hl2 (drop_on h rfl) (by omega), uni, rowsT, rowT, if_neg (by omega), if_neg (by omega), hkk, BitVec.or_assoc]
      simp; omega
    · rw [if_neg (by omega), if_pos (by omega)] at h hf
      simp at h hf
      have hd := drop_on h rfl
      have q1 : byteAt (sgn p.2 ++ (rowsT l ++ 93 :: tail)) 0 ≠ 45 := by rw [byteAt_app (by omega)]; exact (sgn_first p.2 (by omega)).1
      have q2 : byteAt s (a + (sgn p.1).length) ≠ 93 := by rw [byteAt_here hd, byteAt_app (by omega)]; exact (sgn_first p.2 (by omega)).2.1
      obtain ⟨f, rfl⟩ : ∃ g, f = g + 1 := ⟨f - 1, by omega⟩
      rw [mems_step h93 (mem_one (by omega) h q1), mems_step q2 (mem_one (by omega) hd hn.1), ih f _ _ hl2 (drop_on hd rfl) (by omega), uni, rowsT, rowT, if_neg (by omega), if_pos (by omega), BitVec.or_assoc, BitVec.or_assoc, ← BitVec.or_assoc (rng p.1 p.1), hkk, rng_two _ (by omega)]
      simp; omega
    · rw [if_pos hkk, if_pos (by omega)] at h hf
      simp at h hf
      have hm := mem_two (by omega) (by omega) (by omega) h
      have hd := drop_on (x := sgn p.1 ++ (45 :: sgn p.2)) (l := rowsT l ++ 93 :: tail) (n := (sgn p.1).length + 1 + (sgn p.2).length) (by simpa using h) (by simp; omega)
      rw [mems_step h93 hm, ih f _ _ hl2 (by rw [← hd]; congr 1; omega) (by omega), uni, rowsT, rowT, if_pos hkk, if_pos (by omega), BitVec.or_assoc]
      simp; omega
theorem txt_length (c : BitVec 256) : (txt c).length = (rowsT (runs c)).length + 2 := by rw [txt_rows]; simp
/-- A class's text, with whatever behind it, is read as the class. -/
theorem parsed_txt (c : BitVec 256) (tail : List UInt8) : parsed (txt c ++ tail) = .inr (c, (txt c).length) := by
  have hl : ∀ p ∈ runs c, p.1 ≤ p.2 ∧ p.2 ≤ 255 := fun p hp => runs_bd hp
  have hf := rowsT_first (runs c) hl tail
  have e : txt c ++ tail = 91 :: (rowsT (runs c) ++ 93 :: tail) := by rw [txt_rows]; simp
  have hd : (txt c ++ tail).drop 1 = rowsT (runs c) ++ 93 :: tail := by rw [e]; rfl
  have h0 : byteAt (txt c ++ tail) 0 = 91 := by rw [e]; rfl
  have h1 : byteAt (txt c ++ tail) 1 ≠ 94 := by rw [byteAt_here hd]; exact hf.2.1
  rw [parsed, if_pos h0, if_neg h1, mems_rows (runs c) _ 1 0 hl hd (by rw [List.length_append, txt_length]; omega), uni_runs, txt_length]
  simp
  omega
/-- With a sign at its beginning it is read as all other bytes. -/
theorem parsed_neg (c : BitVec 256) : parsed (91 :: 94 :: (txt c).drop 1) = .inr (~~~c, (txt c).length + 1) := by
  have hl : ∀ p ∈ runs c, p.1 ≤ p.2 ∧ p.2 ≤ 255 := fun p hp => runs_bd hp
  have e : (txt c).drop 1 = rowsT (runs c) ++ 93 :: [] := by rw [txt_rows]; rfl
  have hd : (91 :: 94 :: (txt c).drop 1).drop 2 = rowsT (runs c) ++ 93 :: [] := by rw [← e]; rfl
  have h0 : byteAt (91 :: 94 :: (txt c).drop 1) 0 = 91 := rfl
  have h1 : byteAt (91 :: 94 :: (txt c).drop 1) 1 = 94 := rfl
  have hm := mems_rows (runs c) ((91 :: 94 :: (txt c).drop 1).length + 1) 2 0 hl hd (by rw [e]; simp; omega)
  rw [parsed, if_pos h0, if_pos h1, hm, uni_runs, txt_length]
  simp
  omega

theorem byteAt_take {s : List UInt8} {k a : Nat} : byteAt (s.take k) a = if a < k then byteAt s a else 256 := by
  unfold byteAt
  rw [List.getElem?_take]
  by_cases h : a < k
  · simp [h]
  · simp [h]
theorem wrong_cut {s : List UInt8} {k a : Nat} (hk : k ≤ s.length) (ha : k ≤ a) : wrongAt (s.take k) a = (3, k) := by
  have : (s.take k).length = k := by simp; omega
  rw [wrongAt, if_pos (by omega), this]
theorem low_cut {s : List UInt8} {k h a c n : Nat} (hk : k ≤ s.length) (e : lowAt s h a = .inr (c, n)) : lowAt (s.take k) h a = if n ≤ k then .inr (c, n) else .inl (3, k) := by
  unfold lowAt at *
  rw [byteAt_take]
  split at e
  · cases e
  · next hd =>
    simp at e
    by_cases h1 : a < k
    · rw [if_pos h1, if_neg hd, if_pos (by omega), e.1, e.2]
    · rw [if_neg h1, if_pos (by decide), wrong_cut hk (by omega), if_neg (by omega)]
theorem hex_cut {s : List UInt8} {k a c n : Nat} (hk : k ≤ s.length) (e : hexAt s a = .inr (c, n)) : hexAt (s.take k) a = if n ≤ k then .inr (c, n) else .inl (3, k) := by
  have hbd := hexAt_bd e
  unfold hexAt at *
  rw [byteAt_take]
  split at e
  · cases e
  · next hd =>
    by_cases h1 : a < k
    · rw [if_pos h1, if_neg hd, low_cut hk e]
    · rw [if_neg h1, if_pos (by decide), wrong_cut hk (by omega), if_neg (by omega)]
theorem esc_cut {s : List UInt8} {k a c n : Nat} (hk : k ≤ s.length) (e : escAt s a = .inr (c, n)) : escAt (s.take k) a = if n ≤ k then .inr (c, n) else .inl (3, k) := by
  have hbd := escAt_bd e
  by_cases h1 : a < k
  · unfold escAt at *
    rw [byteAt_take, if_pos h1]
    split
    · next h => rw [if_pos h] at e; simp at e; rw [if_pos (by omega), e.1, e.2]
    next g1 =>
    rw [if_neg g1] at e
    split
    · next h => rw [if_pos h] at e; simp at e; rw [if_pos (by omega), e.1, e.2]
    next g2 =>
    rw [if_neg g2] at e
    split
    · next h => rw [if_pos h] at e; simp at e; rw [if_pos (by omega), e.1, e.2]
    next g3 =>
    rw [if_neg g3] at e
    split
    · next h => rw [if_pos h] at e; simp at e; rw [if_pos (by omega), e.1, e.2]
    next g4 =>
    rw [if_neg g4] at e
    split
    · next h => rw [if_pos h] at e; exact hex_cut hk e
    next g5 =>
    rw [if_neg g5] at e
    cases e
  · unfold escAt
    rw [byteAt_take, if_neg h1, if_neg (by decide), if_neg (by decide), if_neg (by decide), if_neg (by decide), if_neg (by decide), wrong_cut hk (by omega), if_neg (by omega)]
theorem sgn_cut {s : List UInt8} {k a c n : Nat} (hk : k ≤ s.length) (e : sgnAt s a = .inr (c, n)) : sgnAt (s.take k) a = if n ≤ k then .inr (c, n) else .inl (3, k) := by
  have hbd := sgnAt_bd e
  by_cases h1 : a < k
  · unfold sgnAt at *
    rw [byteAt_take, if_pos h1]
    split
    · next h => rw [if_pos h] at e; exact esc_cut hk e
    next g1 =>
    rw [if_neg g1] at e
    split
    · next h => rw [if_pos h] at e; cases e
    next g2 =>
    rw [if_neg g2] at e
    simp at e
    rw [if_pos (by omega), e.1, e.2]
  · unfold sgnAt
    rw [byteAt_take, if_neg h1, if_neg (by decide), if_pos (by omega), wrong_cut hk (by omega), if_neg (by omega)]
theorem hi_cut {s : List UInt8} {k lo a c n : Nat} (hk : k ≤ s.length) (ha : a ≤ k) (_ : a ≤ n) (e : hiAt s lo a = .inr (c, n)) :
    hiAt (s.take k) lo a = (if n ≤ k then .inr (c, n) else .inl (3, k)) ∨ (k < n ∧ a = k ∧ hiAt (s.take k) lo a = .inr (lo, k)) := by
  unfold hiAt at *
  rw [byteAt_take]
  by_cases h1 : a < k
  · rw [if_pos h1]
    left
    split
    · next h => rw [if_pos h] at e; exact sgn_cut hk e
    · next h => rw [if_neg h] at e; simp at e; rw [if_pos (by omega), e.1, e.2]
  · obtain rfl : a = k := by omega
    rw [if_neg h1, if_neg (by decide)]
    by_cases h : byteAt s a = 45
    · rw [if_pos h] at e
      have := sgnAt_bd e
      right
      exact ⟨by omega, rfl, rfl⟩
    · rw [if_neg h] at e
      simp at e
      left
      rw [if_pos (by omega), e.1, e.2]
theorem mem_cut {s : List UInt8} {k a n : Nat} {m : BitVec 256} (hk : k ≤ s.length) (e : memAt s a = .inr (m, n)) :
    (n ≤ k → memAt (s.take k) a = .inr (m, n)) ∧ (k < n → memAt (s.take k) a = .inl (3, k) ∨ ∃ m', a < k ∧ memAt (s.take k) a = .inr (m', k)) := by
  unfold memAt at *
  split at e
  · cases e
  next lo p h1 =>
  have b1 := sgnAt_bd h1
  rw [sgn_cut hk h1]
  split at e
  · cases e
  next hi q h2 =>
  have b2 := hiAt_bd (by omega) (by omega) h2
  split at e
  · cases e
  next h3 =>
  simp at e
  obtain ⟨e1, rfl⟩ := e
  by_cases hp : p ≤ k
  · rw [if_pos hp]
    simp only
    rcases hi_cut hk hp b2.2.1 h2 with h | ⟨g1, g2, g3⟩
    · rw [h]
      by_cases hq : q ≤ k
      · rw [if_pos hq]
        simp only
        rw [if_neg h3, e1]
        exact ⟨fun _ => rfl, fun h => by omega⟩
      · rw [if_neg hq]
        exact ⟨fun h => absurd h hq, fun _ => .inl rfl⟩
    · rw [g3]
      simp only
      rw [if_neg (by omega)]
      exact ⟨fun h => by omega, fun _ => .inr ⟨_, by omega, rfl⟩⟩
  · rw [if_neg hp]
    exact ⟨fun h => by omega, fun _ => .inl rfl⟩
theorem mems_end {s : List UInt8} {k : Nat} (hk : k ≤ s.length) (f : Nat) (c : BitVec 256) : memsAt (s.take k) f k c = .inl (3, k) := by
  cases f with
  | zero => rfl
  | succ f =>
    have h : byteAt (s.take k) k = 256 := by rw [byteAt_take, if_neg (by omega)]
    have hs : sgnAt (s.take k) k = .inl (3, k) := by rw [sgnAt, h, if_neg (by decide), if_pos (by omega), wrong_cut hk (Nat.le_refl _)]
    rw [memsAt, h, if_neg (by decide), memAt, hs]
theorem mems_cut {s : List UInt8} {k : Nat} (hk : k ≤ s.length) : ∀ (f g a n : Nat) (c d m : BitVec 256), memsAt s f a c = .inr (m, n) → a ≤ k → k < n → k < g + a → memsAt (s.take k) g a d = .inl (3, k) := by
  intro f
  induction f with
  | zero => intro g a n c d m h; cases h
  | succ f ih =>
    intro g a n c d m h ha hn hg
    by_cases hak : a = k
    · subst hak; exact mems_end hk g d
    obtain ⟨g, rfl⟩ : ∃ j, g = j + 1 := ⟨g - 1, by omega⟩
    have hb0 : byteAt (s.take k) a = byteAt s a := by rw [byteAt_take, if_pos (by omega)]
    rw [memsAt] at h ⊢
    rw [hb0]
    split at h
    · simp at h; omega
    next h93 =>
    rw [if_neg h93]
    split at h
    · cases h
    next m' n' e =>
    have hb := memAt_bd e
    have hc := mem_cut hk e
    by_cases hk2 : n' ≤ k
    · rw [hc.1 hk2]
      simp only
      exact ih g n' n _ _ m h hk2 hn (by omega)
    · rcases hc.2 (by omega) with h2 | ⟨m2, _, h2⟩
      · rw [h2]
      · rw [h2]
        exact mems_end hk g _
/-- No beginning of what is read as a class is one. -/
theorem parsed_cut {s : List UInt8} {k n : Nat} {c : BitVec 256} (e : parsed s = .inr (c, n)) (hk : k < n) : parsed (s.take k) = .inl (3, k) := by
  have hn : n ≤ s.length := by
    unfold parsed at e
    split at e
    · split at e
      · split at e
        · cases e
        · next h => simp at e; have := memsAt_bd h; omega
      · have := memsAt_bd e; omega
    · cases e
  have hlen : (s.take k).length = k := by simp; omega
  by_cases k0 : k = 0
  · subst k0; rfl
  have hb0 : byteAt (s.take k) 0 = byteAt s 0 := by rw [byteAt_take, if_pos (by omega)]
  unfold parsed at *
  rw [hlen, hb0]
  by_cases h0 : byteAt s 0 = 91
  · rw [if_pos h0] at e ⊢
    by_cases k1 : 1 < k
    · have hb1 : byteAt (s.take k) 1 = byteAt s 1 := by rw [byteAt_take, if_pos k1]
      rw [hb1]
      by_cases h1 : byteAt s 1 = 94
      · rw [if_pos h1] at e ⊢
        split at e
        · cases e
        next h =>
        simp at e
        rw [mems_cut (by omega) _ (k + 1) 2 _ _ 0 _ h (by omega) (by omega) (by omega)]
      · rw [if_neg h1] at e ⊢
        rw [mems_cut (by omega) _ (k + 1) 1 _ _ 0 _ e (by omega) (by omega) (by omega)]
    · obtain rfl : k = 1 := by omega
      have hb1 : byteAt (s.take 1) 1 = 256 := by rw [byteAt_take, if_neg (by decide)]
      rw [hb1, if_neg (by decide), mems_end (by omega)]
  · rw [if_neg h0] at e
    cases e
end Go.Proofs.YtjlcoldnhbkcgaaGreatDoor
namespace Go.Proofs.YtjlcoldnhbkcgaaGreatDoor
open Go.RowKit

/-- Bytes as a literal, from the front. -/
def quoR : List UInt8 → List UInt8
  | [] => [39]
  | b :: l => qch b.toNat ++ quoR l
theorem quoTo_cons (b : UInt8) (p : List UInt8) : ∀ k, quoTo (b :: p) (k + 1) = 39 :: (qch b.toNat ++ (quoTo p k).drop 1) := by
  intro k
  induction k with
  | zero => simp [quoTo, byteAt]
  | succ k ih =>
    rw [quoTo, ih, quoTo]
    have e : byteAt (b :: p) (k + 1) = byteAt p k := by simp [byteAt]
    have h : ∀ k, 1 ≤ (quoTo p k).length := by
      intro k
      induction k with
      | zero => simp [quoTo]
      | succ k ih => rw [quoTo, List.length_append]; omega
    rw [e, List.drop_append_of_le_length (h k)]
    simp
theorem quoted_front (p : List UInt8) : quoted p = 39 :: quoR p := by
  have key : ∀ p : List UInt8, quoTo p p.length = 39 :: ((quoR p).dropLast) ∧ quoR p = (quoR p).dropLast ++ [39] := by
    intro p
    induction p with
    | nil => simp [quoTo, quoR]
    | cons b p ih =>
      rw [List.length_cons, quoTo_cons, ih.1]
      have hne : quoR p ≠ [] := by rw [ih.2]; simp
      refine ⟨?_, ?_⟩
      · simp only [quoR, List.drop_succ_cons, List.drop_zero]
        rw [List.dropLast_append_of_ne_nil hne]
      · simp only [quoR]
        rw [List.dropLast_append_of_ne_nil hne, List.append_assoc, ← ih.2]
  rw [quoted, (key p).1]
  have := (key p).2
  rw [List.cons_append, ← this]
theorem qch_first : ∀ b, b < 256 → byteAt (qch b) 0 ≠ 39 ∧ byteAt (qch b) 0 < 256 := by decide +kernel
theorem lch_qch {s post : List UInt8} {a b : Nat} (hb : b < 256) (h : s.drop a = qch b ++ post) : lchAt s a = .inr (b, a + (qch b).length) := by
  have e0 := byteAt_here h
  have e1 := byteAt_on h 1
  have e2 := byteAt_on h 2
  have e3 := byteAt_on h 3
  clear h
  rcases qch_kinds b hb with h | h | h
  · rcases h with rfl | rfl | rfl | rfl | rfl
    all_goals
      simp [qch, byteAt] at e0 e1
      simp [lchAt, lescAt, byteAt, e0, e1, qch]
  · have hs := qch_plain h
    have e4 : byteAt s a = b := by rw [e0, hs]; simp [byteAt]; omega
    rw [lchAt, e4, hs, if_neg (by omega), if_neg (by omega)]
    rfl
  · have hs := qch_hex h
    have k0 : byteAt s a = 92 := by rw [e0, hs]; rfl
    have k1 : byteAt s (a + 1) = 120 := by rw [e1, hs]; rfl
    have k2 : digV (byteAt s (a + 2)) = b / 16 := by rw [e2, hs]; exact digV_hexd (b / 16) (by omega)
    have k3 : digV (byteAt s (a + 3)) = b % 16 := by rw [e3, hs]; exact digV_hexd (b % 16) (by omega)
    rw [lchAt, if_pos k0, lescAt, k1, if_neg (by decide), if_neg (by decide), if_neg (by decide), if_neg (by decide), if_pos rfl, hexAt, k2, if_neg (by omega), lowAt, k3, if_neg (by omega), hs]
    have : 16 * (b / 16) + b % 16 = b := by omega
    rw [this]
    rfl
theorem lit_quoR {s : List UInt8} : ∀ (l : List UInt8) (f a : Nat) (acc : List UInt8), s.drop a = quoR l → l.length < f → acc.length ≤ 255 →
    litGo s 39 0 f a acc = if acc.length + l.length ≤ 255 then .inr (acc ++ l, a + (quoR l).length) else .inl (2, 0) := by
  intro l
  induction l with
  | nil =>
    intro f a acc h hf hacc
    obtain ⟨f, rfl⟩ : ∃ g, f = g + 1 := ⟨f - 1, by omega⟩
    have h0 : byteAt s a = 39 := by rw [byteAt_here h]; rfl
    have hl := byteAt_in (s := s) (a := a) (by omega)
    rw [litGo, if_neg (by omega), if_pos h0, if_pos (by simpa using hacc)]
    simp [quoR]
  | cons b l ih =>
    intro f a acc h hf hacc
    obtain ⟨f, rfl⟩ : ∃ g, f = g + 1 := ⟨f - 1, by simp at hf; omega⟩
    have hb := UInt8.toNat_lt b
    have hq := qch_len b.toNat
    have h0 : byteAt s a ≠ 39 := by rw [byteAt_here h, quoR, byteAt_app (by omega)]; exact (qch_first b.toNat hb).1
    have h1 : byteAt s a < 256 := by rw [byteAt_here h, quoR, byteAt_app (by omega)]; exact (qch_first b.toNat hb).2
    have hl := byteAt_in h1
    have hc := lch_qch (s := s) (a := a) (post := quoR l) hb h
    rw [litGo, if_neg (by omega), if_neg h0, hc]
    simp only
    have eb : b.toNat.toUInt8 = b := by simp
    by_cases h255 : acc.length = 255
    · rw [if_pos h255, if_neg (by simp; omega)]
    · rw [if_neg h255, eb, ih f _ (acc ++ [b]) (drop_on h rfl) (by simp at hf; omega) (by simp; omega)]
      by_cases hfit : acc.length + (b :: l).length ≤ 255
      · rw [if_pos (by simp at hfit ⊢; omega), if_pos hfit]
        simp [quoR]; omega
      · rw [if_neg (by simp at hfit ⊢; omega), if_neg hfit]
theorem quoR_len (l : List UInt8) : l.length < (quoR l).length := by
  induction l with
  | nil => simp [quoR]
  | cons b l ih => rw [quoR, List.length_append, List.length_cons]; have := qch_len b.toNat; omega
theorem quoted_tok (p : List UInt8) : tokAt (quoted p) 0 = if p.length ≤ 255 then .inr (⟨3, p, 0, 0⟩, (quoted p).length) else .inl (2, 0) := by
  rw [quoted_front]
  have hn : nameLen (39 :: quoR p) 0 = 0 := nameLen_is (fun j h => by omega) (by simp [byteAt, cont, isLet])
  have hb : byteAt (39 :: quoR p) 0 = 39 := rfl
  have hl := lit_quoR (s := 39 :: quoR p) p ((39 :: quoR p).length + 1) (0 + 1) [] rfl (by have := quoR_len p; simp; omega) (by simp)
  rw [tokAt, hn, if_neg (by decide), if_neg (by decide), hb, if_neg (by decide), if_neg (fun h => absurd h.1 (by decide)), if_pos (.inl rfl), hl]
  by_cases h : p.length ≤ 255
  · rw [if_pos (by simpa using h), if_pos h]
    simp; omega
  · rw [if_neg (by simpa using h), if_neg h]
theorem quoted_toks (p : List UInt8) : toks (quoted p) = if p.length ≤ 255 then .inr [⟨3, p, 0, 0⟩, ⟨6, [], 0, (quoted p).length⟩] else .inl (2, 0) := by
  have hb : byteAt (quoted p) 0 = 39 := by rw [quoted_front]; rfl
  have hl : 0 < (quoted p).length := by rw [quoted_front]; simp
  have ht := quoted_tok p
  rw [toks, show 2 * (quoted p).length + 2 = (2 * (quoted p).length + 1) + 1 from rfl, toksGo, if_neg (by omega), hb, if_neg (by decide), if_neg (by decide), ht]
  by_cases h : p.length ≤ 255
  · rw [if_pos h, if_pos h]
    simp only
    rw [toksGo, if_pos (Nat.le_refl _)]
    rfl
  · rw [if_neg h, if_neg h]
end Go.Proofs.YtjlcoldnhbkcgaaGreatDoor
