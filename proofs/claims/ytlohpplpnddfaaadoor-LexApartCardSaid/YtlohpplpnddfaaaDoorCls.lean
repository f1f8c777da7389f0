/- Classes of bytes as 256 bits: plain facts, no program. -/
import Derived.WalkKit
import Derived.WalkSpells
import Derived.Laws.BitsAllLaws
namespace Go.Proofs.YtlohpplpnddfaaaDoor
open Go.RowKit

/-- Word i of a class. -/
def wd (c : BitVec 256) (i : Nat) : Int := ((c.extractLsb' (64*i) 64).toNat : Int)
theorem wd_nonneg (c : BitVec 256) (i : Nat) : 0 ≤ wd c i := by unfold wd; omega
theorem wd_lt (c : BitVec 256) (i : Nat) : wd c i < 18446744073709551616 := by
  unfold wd; have := (c.extractLsb' (64*i) 64).isLt; omega
theorem bits_bv (op : BinOp) (f : BitVec 64 → BitVec 64 → BitVec 64) (hf : ∀ a b : Int, bits op .u64 a b = IntKind.u64.wrap ((f (BitVec.ofInt 64 a) (BitVec.ofInt 64 b)).toNat : Int)) (a b : BitVec 64) :
    bits op .u64 (a.toNat : Int) (b.toNat : Int) = ((f a b).toNat : Int) := by
  rw [hf]
  have h1 : BitVec.ofInt 64 (a.toNat : Int) = a := by simp
  have h2 : BitVec.ofInt 64 (b.toNat : Int) = b := by simp
  rw [h1, h2, IntKind.wrap_u64]
  have := (f a b).isLt
  omega
theorem and_wd (c d : BitVec 256) (i : Nat) : bits .and .u64 (wd c i) (wd d i) = wd (c &&& d) i := by
  unfold wd
  rw [bits_bv .and (· &&& ·) (fun _ _ => rfl)]
  congr 2
  ext k hk
  simp
theorem or_wd (c d : BitVec 256) (i : Nat) : bits .or .u64 (wd c i) (wd d i) = wd (c ||| d) i := by
  unfold wd
  rw [bits_bv .or (· ||| ·) (fun _ _ => rfl)]
  congr 2
  ext k hk
  simp
theorem cl_get (c : BitVec 256) (i : Nat) (h : i < 4) : ([.int .u64 (wd c 0), .int .u64 (wd c 1), .int .u64 (wd c 2), .int .u64 (wd c 3)] : List Value)[i]? = some (.int .u64 (wd c i)) := by
  match i, h with
  | 0, _ => rfl
  | 1, _ => rfl
  | 2, _ => rfl
  | 3, _ => rfl
/-- Is that byte in the class? -/
def Has (c : BitVec 256) (k : Nat) : Bool := c.getLsbD k
theorem has_wd (c : BitVec 256) (x : Int) (h0 : 0 ≤ x) (h1 : x < 256) : (bits .and .u64 (wd c (x / 64).toNat / 2 ^ (x % 64).toNat) 1 != 0) = Has c x.toNat := by
  unfold Has
  obtain ⟨n, rfl⟩ := Int.eq_ofNat_of_zero_le h0
  have e1 : ((n : Int) / 64).toNat = n / 64 := by omega
  have e2 : ((n : Int) % 64).toNat = n % 64 := by omega
  rw [e1, e2, Int.toNat_natCast]
  unfold wd
  have e3 : (((c.extractLsb' (64 * (n / 64)) 64).toNat : Int) / 2 ^ (n % 64)) = (((c.extractLsb' (64 * (n / 64)) 64) >>> (n % 64)).toNat : Int) := by
    rw [BitVec.toNat_ushiftRight, Nat.shiftRight_eq_div_pow]; simp
  rw [e3, show (1 : Int) = (((1 : BitVec 64)).toNat : Int) from rfl, bits_bv .and (· &&& ·) (fun _ _ => rfl)]
  have e4 : (((c.extractLsb' (64 * (n / 64)) 64) >>> (n % 64)) &&& (1 : BitVec 64)) = if c.getLsbD n then 1 else 0 := by
    ext k hk
    simp only [BitVec.getElem_and, BitVec.getElem_ushiftRight]
    by_cases k0 : k = 0
    · subst k0
      have : n % 64 < 64 := Nat.mod_lt _ (by decide)
      have e5 : 64 * (n / 64) + n % 64 = n := Nat.div_add_mod n 64
      simp only [BitVec.getLsbD_extractLsb', Nat.add_zero, e5, this, decide_true, Bool.true_and]
      cases c.getLsbD n <;> simp
    · have : ¬ (1 : BitVec 64)[k] = true := by
        simp [BitVec.getElem_one, k0]
      have h2 : (1 : BitVec 64)[k] = false := by simpa using this
      rw [h2, Bool.and_false]
      cases c.getLsbD n
      · simp
      · simpa using h2.symm
  rw [e4]
  cases c.getLsbD n <;> simp
theorem wd_inj {c d : BitVec 256} (h0 : wd c 0 = wd d 0) (h1 : wd c 1 = wd d 1) (h2 : wd c 2 = wd d 2) (h3 : wd c 3 = wd d 3) : c = d := by
  have key : ∀ i, wd c i = wd d i → ∀ k, k < 64 → c.getLsbD (64 * i + k) = d.getLsbD (64 * i + k) := by
    intro i hi k hk
    unfold wd at hi
    have h := BitVec.eq_of_toNat_eq (Int.ofNat.inj hi)
    have h2 := congrArg (fun v => v.getLsbD k) h
    simpa [BitVec.getLsbD_extractLsb', hk] using h2
  apply BitVec.eq_of_getLsbD_eq
  intro i hi
  have hk : i % 64 < 64 := Nat.mod_lt _ (by decide)
  have e := Nat.div_add_mod i 64
  have hlt : i / 64 < 4 := by omega
  rw [← e]
  match hq : i / 64, hlt with
  | 0, _ => exact key 0 h0 _ hk
  | 1, _ => exact key 1 h1 _ hk
  | 2, _ => exact key 2 h2 _ hk
  | 3, _ => exact key 3 h3 _ hk
/-- The class with these words. -/
theorem cl_of {a b c d : Int} (ha : 0 ≤ a ∧ a < 18446744073709551616) (hb : 0 ≤ b ∧ b < 18446744073709551616) (hc : 0 ≤ c ∧ c < 18446744073709551616) (hd : 0 ≤ d ∧ d < 18446744073709551616) :
    ∃ x : BitVec 256, wd x 0 = a ∧ wd x 1 = b ∧ wd x 2 = c ∧ wd x 3 = d := by
  obtain ⟨a, rfl⟩ := Int.eq_ofNat_of_zero_le ha.1
  obtain ⟨b, rfl⟩ := Int.eq_ofNat_of_zero_le hb.1
  obtain ⟨c, rfl⟩ := Int.eq_ofNat_of_zero_le hc.1
  obtain ⟨d, rfl⟩ := Int.eq_ofNat_of_zero_le hd.1
  refine ⟨BitVec.ofNat 256 (a + 18446744073709551616 * (b + 18446744073709551616 * (c + 18446744073709551616 * d))), ?_, ?_, ?_, ?_⟩ <;>
  · unfold wd
    rw [BitVec.extractLsb'_toNat, BitVec.toNat_ofNat, Nat.shiftRight_eq_div_pow]
    simp only [Nat.reduceMul, Nat.reducePow]
    omega
theorem not_wd (c : BitVec 256) (i : Nat) (hi : i < 4) : bits .xor .u64 IntKind.u64.max (wd c i) = wd (~~~c) i := by
  unfold wd
  rw [show IntKind.u64.max = ((BitVec.allOnes 64).toNat : Int) by decide, bits_bv .xor (· ^^^ ·) (fun _ _ => rfl), BitVec.allOnes_xor]
  congr 2
  ext k hk
  have : 64 * i + k < 256 := by omega
  simp [this]
/-- The first byte from k on that is in c, or that is not; 256: there is none. -/
def nxtF (c : BitVec 256) (b : Bool) : Nat → Nat → Nat
  | 0, k => k
  | f + 1, k => if Has c k = b then k else nxtF c b f (k + 1)
def nxt (c : BitVec 256) (b : Bool) (k : Nat) : Nat := nxtF c b (256 - k) k
theorem nxt_end (c : BitVec 256) (b : Bool) : nxt c b 256 = 256 := rfl
theorem nxt_hit {c : BitVec 256} {b : Bool} {k : Nat} (hk : k < 256) (h : Has c k = b) : nxt c b k = k := by
  unfold nxt
  obtain ⟨f, hf⟩ : ∃ f, 256 - k = f + 1 := ⟨255 - k, by omega⟩
  rw [hf, nxtF, if_pos h]
theorem nxt_miss {c : BitVec 256} {b : Bool} {k : Nat} (hk : k < 256) (h : Has c k ≠ b) : nxt c b k = nxt c b (k + 1) := by
  unfold nxt
  obtain ⟨f, hf⟩ : ∃ f, 256 - k = f + 1 := ⟨255 - k, by omega⟩
  rw [hf, nxtF, if_neg h, show 256 - (k + 1) = f by omega]
theorem nxtF_spec (c : BitVec 256) (b : Bool) (f : Nat) : ∀ k, k + f = 256 → k ≤ nxtF c b f k ∧ nxtF c b f k ≤ 256 ∧ (nxtF c b f k < 256 → Has c (nxtF c b f k) = b) ∧ ∀ j, k ≤ j → j < nxtF c b f k → Has c j ≠ b := by
  induction f with
  | zero =>
    intro k hk
    refine ⟨Nat.le_refl _, by simp only [nxtF]; omega, fun h => by simp only [nxtF] at h; omega, fun j h1 h2 => by simp only [nxtF] at h2; omega⟩
  | succ f ih =>
    intro k hk
    by_cases h : Has c k = b
    · rw [nxtF, if_pos h]
      exact ⟨Nat.le_refl _, by omega, fun _ => h, fun j h1 h2 => by omega⟩
    · rw [nxtF, if_neg h]
      obtain ⟨a1, a2, a3, a4⟩ := ih (k + 1) (by omega)
      refine ⟨by omega, a2, a3, fun j h1 h2 => ?_⟩
      by_cases e : j = k
      · rw [e]; exact h
      · exact a4 j (by omega) h2
theorem nxt_spec (c : BitVec 256) (b : Bool) (k : Nat) (hk : k ≤ 256) : k ≤ nxt c b k ∧ nxt c b k ≤ 256 ∧ (nxt c b k < 256 → Has c (nxt c b k) = b) ∧ ∀ j, k ≤ j → j < nxt c b k → Has c j ≠ b :=
  nxtF_spec c b (256 - k) k (by omega)

/-- The bytes from lo to hi. -/
def rng (lo hi : Nat) : BitVec 256 := (BitVec.allOnes 256 >>> (255 - hi + lo)) <<< lo
theorem has_rng (lo hi k : Nat) (hk : k < 256) (hh : hi ≤ 255) : Has (rng lo hi) k = (decide (lo ≤ k) && decide (k ≤ hi)) := by
  unfold Has rng
  simp only [BitVec.getLsbD_shiftLeft, BitVec.getLsbD_ushiftRight, BitVec.getLsbD_allOnes]
  by_cases h : lo ≤ k
  · have h1 : ¬ k < lo := by omega
    simp only [hk, h, h1, decide_true, decide_false, Bool.not_false, Bool.true_and]
    apply decide_eq_decide.2
    omega
  · have h1 : k < lo := by omega
    simp [h, h1]
theorem wd_rng (lo hi k a b : Nat) (_ : k < 4) (_ : lo ≤ 64 * k + 63) (h2 : 64 * k ≤ hi) (_ : lo ≤ hi) (hh : hi ≤ 255) (ha : a = 63 - min (hi - 64 * k) 63 + (lo - 64 * k)) (hb : b = lo - 64 * k) :
    IntKind.u64.wrap (18446744073709551615 / 2 ^ a * 2 ^ b) = wd (rng lo hi) k := by
  have e1 : IntKind.u64.wrap (18446744073709551615 / 2 ^ a * 2 ^ b) = (((BitVec.allOnes 64 >>> a) <<< b).toNat : Int) := by
    rw [IntKind.wrap_u64, BitVec.toNat_shiftLeft, BitVec.toNat_ushiftRight, Nat.shiftRight_eq_div_pow, Nat.shiftLeft_eq]
    rw [show (BitVec.allOnes 64).toNat = 18446744073709551615 from rfl, show 2 ^ 64 = 18446744073709551616 from rfl]
    simp
  rw [e1]
  unfold wd
  congr 2
  apply BitVec.eq_of_getLsbD_eq
  intro i hi2
  have hr := has_rng lo hi (64 * k + i) (by omega) hh
  unfold Has at hr
  rw [BitVec.getLsbD_extractLsb', hr]
  simp only [BitVec.getLsbD_shiftLeft, BitVec.getLsbD_ushiftRight, BitVec.getLsbD_allOnes, hi2, decide_true, Bool.true_and]
  by_cases c : i < b
  · have : ¬ lo ≤ 64 * k + i := by omega
    simp [c, this]
  · have : lo ≤ 64 * k + i := by omega
    simp only [c, this, decide_true, decide_false, Bool.not_false, Bool.true_and]
    apply decide_eq_decide.2
    omega
theorem wd_rng_out (lo hi k : Nat) (hk : k < 4) (hh : hi ≤ 255) (h1 : hi < 64 * k ∨ 64 * k + 63 < lo) : wd (rng lo hi) k = 0 := by
  unfold wd
  have : (rng lo hi).extractLsb' (64 * k) 64 = 0 := by
    apply BitVec.eq_of_getLsbD_eq
    intro i hi2
    have hr := has_rng lo hi (64 * k + i) (by omega) hh
    unfold Has at hr
    rw [BitVec.getLsbD_extractLsb', hr]
    simp
    omega
  rw [this]
  rfl
/-- Word j of what a loop over the words has made so far. -/
def sw (r : BitVec 256) (j k : Nat) : Int := if j < k then wd r j else 0
theorem sw_lt (r : BitVec 256) {j k : Nat} (h : j < k) : sw r j k = wd r j := if_pos h
theorem sw_ge (r : BitVec 256) {j k : Nat} (h : ¬ j < k) : sw r j k = 0 := if_neg h
theorem sw_step (r : BitVec 256) {j k : Nat} (h : j ≠ k) : sw r j (k + 1) = sw r j k := by
  unfold sw; by_cases h2 : j < k
  · rw [if_pos h2, if_pos (by omega)]
  · rw [if_neg h2, if_neg (by omega)]
theorem sw_out (r : BitVec 256) (k : Nat) (h : wd r k = 0) : sw r k (k + 1) = sw r k k := by
  rw [sw_lt r (by omega), sw_ge r (by omega), h]

theorem wd_zero (i : Nat) : wd 0#256 i = 0 := by
  unfold wd
  have : (0#256).extractLsb' (64 * i) 64 = 0 := by
    apply BitVec.eq_of_getLsbD_eq
    intro k hk
    simp
  rw [this]
  rfl
theorem wd_zero' (i : Nat) : wd (0 : BitVec 256) i = 0 := wd_zero i
theorem eq_wd (c d : BitVec 256) : (wd c 0 == wd d 0 && (wd c 1 == wd d 1 && (wd c 2 == wd d 2 && wd c 3 == wd d 3))) = (c == d) := by
  rw [Bool.eq_iff_iff]
  simp only [Bool.and_eq_true, beq_iff_eq]
  constructor
  · rintro ⟨a, b, e, f⟩; exact wd_inj a b e f
  · rintro rfl; exact ⟨rfl, rfl, rfl, rfl⟩

/-- The bits of a word, told by Go's own sums. -/
def ones1 (x : Int) : Int := IntKind.u64.wrap (bits .and .u64 (x / 2) 6148914691236517205 + bits .and .u64 x 6148914691236517205)
def ones2 (x : Int) : Int := IntKind.u64.wrap (bits .and .u64 (x / 4) 3689348814741910323 + bits .and .u64 x 3689348814741910323)
def ones3 (x : Int) : Int := bits .and .u64 (IntKind.u64.wrap (x / 16 + x)) 1085102592571150095
def ones4 (x : Int) : Int := IntKind.u64.wrap (x + x / 256)
def ones5 (x : Int) : Int := IntKind.u64.wrap (x + x / 65536)
def ones6 (x : Int) : Int := IntKind.u64.wrap (x + x / 4294967296)
def ones7 (x : Int) : Int := bits .and .i64 (wrap64 x) 127
def ones (x : Int) : Int := ones6 (ones5 (ones4 (ones3 (ones2 (ones1 x)))))
end Go.Proofs.YtlohpplpnddfaaaDoor
