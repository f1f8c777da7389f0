/- Reading a class: plain facts. -/
import Derived.Test.YtlohpplpnddfaaaDoorSgnP
import Derived.Test.YtlohpplpnddfaaaDoorCls
namespace Go.Proofs.YtlohpplpnddfaaaDoor
open Go.RowKit

/-- What is wrong (its number, its place), or what comes of it and the place behind it. -/
abbrev Got (α : Type) : Type := (Nat × Nat) ⊕ (α × Nat)
/-- What can't stand at a place. -/
def wrongAt (s : List UInt8) (a : Nat) : Nat × Nat := if s.length ≤ a then (3, s.length) else (4, a)
/-- A digit's number; 16: it is none. -/
def digV (c : Nat) : Nat := if 48 ≤ c ∧ c ≤ 57 then c - 48 else if 97 ≤ c ∧ c ≤ 102 then c - 87 else 16
/-- The byte at a place; 256: there is none. -/
def byteAt (s : List UInt8) (a : Nat) : Nat := match s[a]? with | some c => c.toNat | none => 256
/-- The second digit. -/
def lowAt (s : List UInt8) (h a : Nat) : Got Nat := if digV (byteAt s a) = 16 then .inl (wrongAt s a) else .inr (16 * h + digV (byteAt s a), a + 1)
/-- Two digits. -/
def hexAt (s : List UInt8) (a : Nat) : Got Nat := if digV (byteAt s a) = 16 then .inl (wrongAt s a) else lowAt s (digV (byteAt s a)) (a + 1)
/-- What stands behind a backslash. -/
def escAt (s : List UInt8) (a : Nat) : Got Nat :=
  if byteAt s a = 110 then .inr (10, a + 1) else if byteAt s a = 114 then .inr (13, a + 1) else if byteAt s a = 116 then .inr (9, a + 1)
  else if fiveB (byteAt s a) then .inr (byteAt s a, a + 1) else if byteAt s a = 120 then hexAt s (a + 1) else .inl (wrongAt s a)
/-- A sign. -/
def sgnAt (s : List UInt8) (a : Nat) : Got Nat :=
  if byteAt s a = 92 then escAt s (a + 1) else if fiveB (byteAt s a) = true ∨ byteAt s a < 32 ∨ 126 < byteAt s a then .inl (wrongAt s a) else .inr (byteAt s a, a + 1)
/-- The sign behind a dash, if there is one. -/
def hiAt (s : List UInt8) (lo n : Nat) : Got Nat := if byteAt s n = 45 then sgnAt s (n + 1) else .inr (lo, n)
/-- A member. -/
def memAt (s : List UInt8) (a : Nat) : Got (BitVec 256) :=
  match sgnAt s a with
  | .inl e => .inl e
  | .inr (lo, n) => match hiAt s lo n with
    | .inl e => .inl e
    | .inr (hi, m) => if hi < lo then .inl (4, a) else .inr (rng lo hi, m)
/-- The members up to the end. -/
def memsAt (s : List UInt8) : Nat → Nat → BitVec 256 → Got (BitVec 256)
  | 0, a, _ => .inl (3, a)
  | f + 1, a, c => if byteAt s a = 93 then .inr (c, a + 1) else match memAt s a with
    | .inl e => .inl e
    | .inr (m, n) => memsAt s f n (c ||| m)
/-- A class. -/
def parsed (s : List UInt8) : Got (BitVec 256) :=
  if byteAt s 0 = 91 then
    if byteAt s 1 = 94 then match memsAt s (s.length + 1) 2 0 with
      | .inl e => .inl e
      | .inr (c, n) => .inr (~~~c, n)
    else memsAt s (s.length + 1) 1 0
  else .inl (wrongAt s 0)

theorem byteAt_lt {s : List UInt8} {a : Nat} (h : a < s.length) : byteAt s a = s[a].toNat := by simp [byteAt, h]
theorem byteAt_bd {s : List UInt8} {a : Nat} (h : a < s.length) : byteAt s a < 256 := by rw [byteAt_lt h]; exact UInt8.toNat_lt _
theorem byteAt_ge {s : List UInt8} {a : Nat} (h : s.length ≤ a) : byteAt s a = 256 := by simp [byteAt, h]
theorem byteAt_in {s : List UInt8} {a : Nat} (h : byteAt s a < 256) : a < s.length := by
  rcases Nat.lt_or_ge a s.length with h1 | h1
  · exact h1
  · rw [byteAt_ge h1] at h; omega
theorem byteAt_le (s : List UInt8) (a : Nat) : byteAt s a ≤ 256 := by
  rcases Nat.lt_or_ge a s.length with h | h
  · have := byteAt_bd h; omega
  · rw [byteAt_ge h]; omega
theorem wrongAt_in {s : List UInt8} {a : Nat} (h : a < s.length) : wrongAt s a = (4, a) := by rw [wrongAt, if_neg (by omega)]
theorem wrongAt_out {s : List UInt8} {a : Nat} (h : s.length ≤ a) : wrongAt s a = (3, s.length) := by rw [wrongAt, if_pos h]
theorem digV_le : ∀ c, digV c ≤ 16 := by intro c; unfold digV; split <;> (try split) <;> omega
theorem digV_in {c : Nat} (h : digV c ≠ 16) : c < 256 := by unfold digV at h; split at h <;> (try split at h) <;> omega
theorem lowAt_bd {s : List UInt8} {h a c n : Nat} (hh : h < 16) (e : lowAt s h a = .inr (c, n)) : c < 256 ∧ n = a + 1 ∧ n ≤ s.length := by
  unfold lowAt at e
  have := digV_le (byteAt s a)
  split at e
  · cases e
  · next hd =>
    have := byteAt_in (digV_in hd)
    simp at e; omega
theorem hexAt_bd {s : List UInt8} {a c n : Nat} (e : hexAt s a = .inr (c, n)) : c < 256 ∧ n = a + 2 ∧ n ≤ s.length := by
  unfold hexAt at e
  have := digV_le (byteAt s a)
  split at e
  · cases e
  · have := lowAt_bd (by omega) e
    omega
theorem escAt_bd {s : List UInt8} {a c n : Nat} (e : escAt s a = .inr (c, n)) : c < 256 ∧ a < n ∧ n ≤ s.length := by
  unfold escAt at e
  have hb := @byteAt_in s a
  split at e
  · simp at e; omega
  split at e
  · simp at e; omega
  split at e
  · simp at e; omega
  split at e
  · next h =>
    have := five_list h
    simp at e; omega
  split at e
  · have := hexAt_bd e; omega
  · cases e
theorem sgnAt_bd {s : List UInt8} {a c n : Nat} (e : sgnAt s a = .inr (c, n)) : c < 256 ∧ a < n ∧ n ≤ s.length := by
  unfold sgnAt at e
  have hb := @byteAt_in s a
  split at e
  · have := escAt_bd e; omega
  split at e
  · cases e
  · simp at e; omega
theorem hiAt_bd {s : List UInt8} {lo a c n : Nat} (h : lo < 256) (ha : a ≤ s.length) (e : hiAt s lo a = .inr (c, n)) : c < 256 ∧ a ≤ n ∧ n ≤ s.length := by
  unfold hiAt at e
  split at e
  · have := sgnAt_bd e; omega
  · simp at e; omega
theorem memAt_bd {s : List UInt8} {a n : Nat} {m : BitVec 256} (e : memAt s a = .inr (m, n)) : a < n ∧ n ≤ s.length := by
  unfold memAt at e
  split at e
  · cases e
  · next lo k h1 =>
    have b1 := sgnAt_bd h1
    split at e
    · cases e
    · next hi k2 h2 =>
      have b2 := hiAt_bd (by omega) (by omega) h2
      split at e
      · cases e
      · simp at e; omega
theorem memsAt_bd {s : List UInt8} : ∀ {f a n : Nat} {c m : BitVec 256}, memsAt s f a c = .inr (m, n) → a < n ∧ n ≤ s.length := by
  intro f
  induction f with
  | zero => intro a n c m h; cases h
  | succ f ih =>
    intro a n c m h
    rw [memsAt] at h
    split at h
    · next hb => have := @byteAt_in s a; simp at h; omega
    · split at h
      · cases h
      · next m' n' e => have := memAt_bd e; have := ih h; omega
end Go.Proofs.YtlohpplpnddfaaaDoor
