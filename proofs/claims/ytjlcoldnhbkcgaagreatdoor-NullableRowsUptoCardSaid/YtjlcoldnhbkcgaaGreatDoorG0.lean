/- Small laws for all walks: what a call answers; a region that reads, and whose callees keep what was there. | A byte's sign: plain facts. | Classes of bytes as 256 bits: plain facts, no program. | Reading a class: plain facts. -/
import Derived.WalkKit
import Derived.WalkSpells
import Derived.WalkLawsBesides
import Derived.Lib.Hide
import Derived.Lib.QuietBelow
import Derived.StillTailTactics
import Derived.Deep.DeepCutAuto
import Derived.Lib.IndexLaws
import Derived.Laws.BitsAllLaws
namespace Go.Proofs.YtjlcoldnhbkcgaaGreatDoor
open Go.RowKit Go.Sort

/-- It answers v; what was there is as it was. -/
def Ans (v : Value) (w : World) (e : Ending) (w' : World) : Prop := e = .returned v ∧ Below w.heap.size w w'
theorem ret_bool {a b : Bool} (h : a = b) : Ending.returned (.bool a) = .returned (.bool b) := by rw [h]
theorem ret_int {k : IntKind} {a b : Int} (h : a = b) : Ending.returned (.int k a) = .returned (.int k b) := by rw [h]
theorem ret_val {a b : Value} (h : a = b) : Ending.returned a = .returned b := by rw [h]

theorem bcell {w w1 : World} (hb : Below w.heap.size w w1) : (∀ b o, b < w.heap.size → w1.cell? ⟨b, o, none⟩ = w.cell? ⟨b, o, none⟩) ∧ (∀ b o, b < w.heap.size → w1.frozen? ⟨b, o, none⟩ = w.frozen? ⟨b, o, none⟩) :=
  ⟨fun b o h => hb.cell (p := ⟨b, o, none⟩) h, fun b o h => hb.frozen (p := ⟨b, o, none⟩) h⟩
theorem bcell3 {w w1 : World} (hb : Below w.heap.size w w1) : (∀ b o, b < w.heap.size → w1.cell? ⟨b, o, none⟩ = w.cell? ⟨b, o, none⟩) ∧ (∀ b o, b < w.heap.size → w1.frozen? ⟨b, o, none⟩ = w.frozen? ⟨b, o, none⟩) ∧ ∀ b, b < w.heap.size → b < w1.heap.size :=
  ⟨(bcell hb).1, (bcell hb).2, fun _ h => Nat.lt_of_lt_of_le h hb.size⟩
theorem cell_alloc_lt (w : World) (o : Obj) (b off : Nat) (h : b < w.heap.size) : (w.alloc o).cell? ⟨b, off, none⟩ = w.cell? ⟨b, off, none⟩ := World.cell?_alloc_old w o ⟨b, off, none⟩ (Nat.ne_of_lt h)
theorem frozen_alloc_lt (w : World) (o : Obj) (b off : Nat) (h : b < w.heap.size) : (w.alloc o).frozen? ⟨b, off, none⟩ = w.frozen? ⟨b, off, none⟩ := World.frozen?_alloc_old w o ⟨b, off, none⟩ (Nat.ne_of_lt h)
theorem cell_set_ne (w : World) (a : Addr) (v : Value) (b off : Nat) (h : b ≠ a.block) : (w.setCell a v).cell? ⟨b, off, none⟩ = w.cell? ⟨b, off, none⟩ :=
  World.cell?_of_block (w := w) (Below.heap_setCell w a v b h)
theorem cell_set_lt (w : World) (c i : Nat) (v : Value) (b off : Nat) (h : b < c) : (w.setCell ⟨c, i, none⟩ v).cell? ⟨b, off, none⟩ = w.cell? ⟨b, off, none⟩ := cell_set_ne w _ v b off (Nat.ne_of_lt h)
theorem cell_set_gt (w : World) (c i : Nat) (v : Value) (b off : Nat) (h : c < b) : (w.setCell ⟨c, i, none⟩ v).cell? ⟨b, off, none⟩ = w.cell? ⟨b, off, none⟩ := cell_set_ne w _ v b off (Ne.symm (Nat.ne_of_lt h))
/-- A later world: what lay below B is as in w, B is not greater than w's size. -/
theorem below_step {B : Nat} {w w1 w2 : World} (h : Below B w w1) (hB : B ≤ w1.heap.size) (k : Below w1.heap.size w1 w2) : Below B w w2 :=
  h.trans (k.mono hB)

theorem bal {a w : World} (h : Below a.heap.size a w) (o : Obj) : Below a.heap.size a (w.alloc o) := h.alloc h.size o
theorem bdr {B : Nat} {a w : World} (h : Below B a w) : Below B a w.drew := h.drew
theorem bdrn {B : Nat} {a w : World} (h : Below B a w) (n : Nat) : Below B a (w.drewN n) := below_drewN h n
theorem bset {a w : World} (h : Below a.heap.size a w) {p : Addr} (hp : a.heap.size ≤ p.block) (u : Value) : Below a.heap.size a (w.setCell p u) := h.setCell hp u
theorem bstep {a w1 w2 : World} (h : Below a.heap.size a w1) (k : Below w1.heap.size w1 w2) : Below a.heap.size a w2 := below_step h h.size k

theorem grown_cell (w : World) (d : Nat) (os : Array Obj) (a : Addr) (h : a.block < w.heap.size) : (grow (redrawn w d) os).cell? a = w.cell? a :=
  (below_regrown w d os).cell h

theorem wp_region_qb {P : Program} {id : Nat} {Q : Exit → Act → World → Prop} {a : Act} {w : World} {l : List Oper} (hm : P.follows .mixedOrders = true) (hB : Region.lexB .any l.toArray = true)
    (h : wpQuiet P l.toArray (fun w' => ∃ p : Regrown, w' = grow (redrawn w p.d) p.os) (fun a' => ∀ w', Below w.heap.size w w' → Q .normal a' w') l a) : (Code.region id l.toArray true).wp P Q a w := by
  refine wp_region_quiet (C := fun w' => ∃ p : Regrown, w' = grow (redrawn w p.d) p.os) hm hB ⟨⟨w.drawn + 1, #[]⟩, by rw [grow_empty]; rfl⟩ ?_
  have key : ∀ (l' : List Oper) (a : Act), wpQuiet P l.toArray (fun w' => ∃ p : Regrown, w' = grow (redrawn w p.d) p.os) (fun a' => ∀ w', Below w.heap.size w w' → Q .normal a' w') l' a →
      wpQuiet P l.toArray (fun w' => ∃ p : Regrown, w' = grow (redrawn w p.d) p.os) (fun a' => ∀ w', (∃ p : Regrown, w' = grow (redrawn w p.d) p.os) → Q .normal a' w') l' a := by
    intro l' a h
    have e : (fun a' => ∀ w', (∃ p : Regrown, w' = grow (redrawn w p.d) p.os) → Q .normal a' w') = (fun a' => ∀ w', Below w.heap.size w w' → Q .normal a' w') := by
      funext a'
      apply propext
      constructor
      · intro h w' hb
        exact h w' (regrown_of_below hb)
      · rintro h w' ⟨p, rfl⟩
        exact h _ (below_regrown w p.d p.os)
    rw [e]
    exact h
  simpa using key l a h
/-- A callee's contract, met in such a region. -/
theorem ans_quiet {P : Program} {f : FuncId} {args : Array Value} {w : World} {d : Nat} {os : Array Obj} {v : Value}
    (h : Calls P f args (grow (redrawn w d) os) (Ans v (grow (redrawn w d) os))) : Calls P f args (grow (redrawn w d) os) fun e w'' => e = .returned v ∧ ∃ p : Regrown, w'' = grow (redrawn w p.d) p.os :=
  Calls.regrown_of h
end Go.Proofs.YtjlcoldnhbkcgaaGreatDoor
namespace Go.Proofs.YtjlcoldnhbkcgaaGreatDoor
open Go.RowKit

/-- The five bytes with a meaning. -/
def fiveB (b : Nat) : Bool := b == 91 || b == 93 || b == 92 || b == 45 || b == 94
/-- A digit of base sixteen. -/
def hexd (n : Nat) : UInt8 := if n < 10 then (48 + n).toUInt8 else (87 + n).toUInt8
/-- A byte's sign. -/
def sgn (b : Nat) : List UInt8 :=
  if b = 10 then [92, 110] else if b = 13 then [92, 114] else if b = 9 then [92, 116]
  else if fiveB b then [92, b.toUInt8] else if 32 ≤ b ∧ b ≤ 126 then [b.toUInt8] else [92, 120, hexd (b / 16), hexd (b % 16)]
theorem stand_no : ∀ b, b < 256 → b ≠ 10 → b ≠ 13 → b ≠ 9 → Lib.indexByte [10, 13, 9] b.toUInt8 = -1 := by decide +kernel
theorem marked_no : ∀ b, b < 256 → fiveB b = false → Lib.indexByte [91, 93, 92, 45, 94] b.toUInt8 = -1 := by decide +kernel
theorem hexd_at : ∀ n, n < 16 → (⟨#[48, 49, 50, 51, 52, 53, 54, 55, 56, 57, 97, 98, 99, 100, 101, 102]⟩ : ByteArray).extract n (n + 1) = ⟨#[hexd n]⟩ := by decide +kernel
/-- The bytes are of five kinds. -/
theorem sgn_kinds (b : Nat) (_ : b < 256) : (b = 10 ∨ b = 13 ∨ b = 9) ∨ fiveB b = true ∨ (fiveB b = false ∧ b ≠ 10 ∧ b ≠ 13 ∧ b ≠ 9 ∧ 32 ≤ b ∧ b ≤ 126) ∨ (fiveB b = false ∧ b ≠ 10 ∧ b ≠ 13 ∧ b ≠ 9 ∧ (b < 32 ∨ 126 < b)) := by
  cases fiveB b <;> simp <;> omega
theorem five_list {b : Nat} (h : fiveB b = true) : b = 91 ∨ b = 93 ∨ b = 92 ∨ b = 45 ∨ b = 94 := by
  simpa [fiveB, or_assoc] using h
theorem sgn_plain {b : Nat} (h : fiveB b = false) (h1 : b ≠ 10) (h2 : b ≠ 13) (h3 : b ≠ 9) (h4 : 32 ≤ b) (h5 : b ≤ 126) : sgn b = [b.toUInt8] := by
  unfold sgn; rw [if_neg h1, if_neg h2, if_neg h3, h, if_neg (by decide), if_pos ⟨h4, h5⟩]
theorem sgn_hex {b : Nat} (h : fiveB b = false) (h1 : b ≠ 10) (h2 : b ≠ 13) (h3 : b ≠ 9) (h4 : b < 32 ∨ 126 < b) : sgn b = [92, 120, hexd (b / 16), hexd (b % 16)] := by
  unfold sgn; rw [if_neg h1, if_neg h2, if_neg h3, h, if_neg (by decide), if_neg (by omega)]
end Go.Proofs.YtjlcoldnhbkcgaaGreatDoor
namespace Go.Proofs.YtjlcoldnhbkcgaaGreatDoor
open Go.RowKit

/-- Word i of a class. -/
def wd (c : BitVec 256) (i : Nat) : Int := ((c.extractLsb' (64*i) 64).toNat : Int)
theorem wd_nonneg (c : BitVec 256) (i : Nat) : 0 ≤ wd c i := by unfold wd; omega
theorem wd_lt (c : BitVec 256) (i : Nat) : wd c i < 18446744073709551616 := by
  unfold wd; have := (c.extractLsb' (64*i) 64).isLt; omega
theorem bits_bv (op : BinOp) (f : BitVec 64 → BitVec 64 → BitVec 64) (hf : ∀ a b : Int, bits op .u64 a b = IntKind.u64.wrap ((f (BitVec.ofInt 64 a) (BitVec.ofInt 64 b)).toNat : Int)) (a b : BitVec 64) :
    bits op .u64 (a.toNat : Int) (b.toNat : Int) = ((f a b).toNat : Int) := by
  rw [hf]
  have h1 : BitVec.ofInt 64 (a.toNat : Int) = a := by simp
  have h2 : BitVec.ofInt 64 (b.toNat : Int) = b := by simp
  rw [h1, h2, IntKind.wrap_u64]
  have := (f a b).isLt
  omega
theorem and_wd (c d : BitVec 256) (i : Nat) : bits .and .u64 (wd c i) (wd d i) = wd (c &&& d) i := by
  unfold wd
  rw [bits_bv .and (· &&& ·) (fun _ _ => rfl)]
  congr 2
  ext k hk
  simp
theorem or_wd (c d : BitVec 256) (i : Nat) : bits .or .u64 (wd c i) (wd d i) = wd (c ||| d) i := by
  unfold wd
  rw [bits_bv .or (· ||| ·) (fun _ _ => rfl)]
  congr 2
  ext k hk
  simp
theorem cl_get (c : BitVec 256) (i : Nat) (h : i < 4) : ([.int .u64 (wd c 0), .int .u64 (wd c 1), .int .u64 (wd c 2), .int .u64 (wd c 3)] : List Value)[i]? = some (.int .u64 (wd c i)) := by
  match i, h with
  | 0, _ => rfl
  | 1, _ => rfl
  | 2, _ => rfl
  | 3, _ => rfl
/-- Is that byte in the class? -/
def Has (c : BitVec 256) (k : Nat) : Bool := c.getLsbD k
theorem has_wd (c : BitVec 256) (x : Int) (h0 : 0 ≤ x) (h1 : x < 256) : (bits .and .u64 (wd c (x / 64).toNat / 2 ^ (x % 64).toNat) 1 != 0) = Has c x.toNat := by
  unfold Has
  obtain ⟨n, rfl⟩ := Int.eq_ofNat_of_zero_le h0
  have e1 : ((n : Int) / 64).toNat = n / 64 := by omega
  have e2 : ((n : Int) % 64).toNat = n % 64 := by omega
  rw [e1, e2, Int.toNat_natCast]
  unfold wd
  have e3 : (((c.extractLsb' (64 * (n / 64)) 64).toNat : Int) / 2 ^ (n % 64)) = (((c.extractLsb' (64 * (n / 64)) 64) >>> (n % 64)).toNat : Int) := by
    rw [BitVec.toNat_ushiftRight, Nat.shiftRight_eq_div_pow]; simp
  rw [e3, show (1 : Int) = (((1 : BitVec 64)).toNat : Int) from rfl, bits_bv .and (· &&& ·) (fun _ _ => rfl)]
  have e4 : (((c.extractLsb' (64 * (n / 64)) 64) >>> (n % 64)) &&& (1 : BitVec 64)) = if c.getLsbD n then 1 else 0 := by
    ext k hk
    simp only [BitVec.getElem_and, BitVec.getElem_ushiftRight]
    by_cases k0 : k = 0
    · subst k0
      have : n % 64 < 64 := Nat.mod_lt _ (by decide)
      have e5 : 64 * (n / 64) + n % 64 = n := Nat.div_add_mod n 64
      simp only [BitVec.getLsbD_extractLsb', Nat.add_zero, e5, this, decide_true, Bool.true_and]
      cases c.getLsbD n <;> simp
    · have : ¬ (1 : BitVec 64)[k] = true := by
        simp [BitVec.getElem_one, k0]
      have h2 : (1 : BitVec 64)[k] = false := by simpa using this
      rw [h2, Bool.and_false]
      cases c.getLsbD n
      · simp
      · simpa using h2.symm
  rw [e4]
  cases c.getLsbD n <;> simp
theorem wd_inj {c d : BitVec 256} (h0 : wd c 0 = wd d 0) (h1 : wd c 1 = wd d 1) (h2 : wd c 2 = wd d 2) (h3 : wd c 3 = wd d 3) : c = d := by
  have key : ∀ i, wd c i = wd d i → ∀ k, k < 64 → c.getLsbD (64 * i + k) = d.getLsbD (64 * i + k) := by
    intro i hi k hk
    unfold wd at hi
    have h := BitVec.eq_of_toNat_eq (Int.ofNat.inj hi)
    have h2 := congrArg (fun v => v.getLsbD k) h
    simpa [BitVec.getLsbD_extractLsb', hk] using h2
  apply BitVec.eq_of_getLsbD_eq
  intro i hi
  have hk : i % 64 < 64 := Nat.mod_lt _ (by decide)
  have e := Nat.div_add_mod i 64
  have hlt : i / 64 < 4 := by omega
  rw [← e]
  match hq : i / 64, hlt with
  | 0, _ => exact key 0 h0 _ hk
  | 1, _ => exact key 1 h1 _ hk
  | 2, _ => exact key 2 h2 _ hk
  | 3, _ => exact key 3 h3 _ hk
/-- The class with these words. -/
theorem cl_of {a b c d : Int} (ha : 0 ≤ a ∧ a < 18446744073709551616) (hb : 0 ≤ b ∧ b < 18446744073709551616) (hc : 0 ≤ c ∧ c < 18446744073709551616) (hd : 0 ≤ d ∧ d < 18446744073709551616) :
    ∃ x : BitVec 256, wd x 0 = a ∧ wd x 1 = b ∧ wd x 2 = c ∧ wd x 3 = d := by
  obtain ⟨a, rfl⟩ := Int.eq_ofNat_of_zero_le ha.1
  obtain ⟨b, rfl⟩ := Int.eq_ofNat_of_zero_le hb.1
  obtain ⟨c, rfl⟩ := Int.eq_ofNat_of_zero_le hc.1
  obtain ⟨d, rfl⟩ := Int.eq_ofNat_of_zero_le hd.1
  refine ⟨BitVec.ofNat 256 (a + 18446744073709551616 * (b + 18446744073709551616 * (c + 18446744073709551616 * d))), ?_, ?_, ?_, ?_⟩ <;>
  · unfold wd
    rw [BitVec.extractLsb'_toNat, BitVec.toNat_ofNat, Nat.shiftRight_eq_div_pow]
    simp only [Nat.reduceMul, Nat.reducePow]
    omega
theorem not_wd (c : BitVec 256) (i : Nat) (hi : i < 4) : bits .xor .u64 IntKind.u64.max (wd c i) = wd (~~~c) i := by
  unfold wd
  rw [show IntKind.u64.max = ((BitVec.allOnes 64).toNat : Int) by decide, bits_bv .xor (· ^^^ ·) (fun _ _ => rfl), BitVec.allOnes_xor]
  congr 2
  ext k hk
  have : 64 * i + k < 256 := by omega
  simp [this]
/-- The first byte from k on that is in c, or that is not; 256: there is none. -/
def nxtF (c : BitVec 256) (b : Bool) : Nat → Nat → Nat
  | 0, k => k
  | f + 1, k => if Has c k = b then k else nxtF c b f (k + 1)
def nxt (c : BitVec 256) (b : Bool) (k : Nat) : Nat := nxtF c b (256 - k) k
theorem nxt_end (c : BitVec 256) (b : Bool) : nxt c b 256 = 256 := rfl
theorem nxt_hit {c : BitVec 256} {b : Bool} {k : Nat} (hk : k < 256) (h : Has c k = b) : nxt c b k = k := by
  unfold nxt
  obtain ⟨f, hf⟩ : ∃ f, 256 - k = f + 1 := ⟨255 - k, by omega⟩
  rw [hf, nxtF, if_pos h]
theorem nxt_miss {c : BitVec 256} {b : Bool} {k : Nat} (hk : k < 256) (h : Has c k ≠ b) : nxt c b k = nxt c b (k + 1) := by
  unfold nxt
  obtain ⟨f, hf⟩ : ∃ f, 256 - k = f + 1 := ⟨255 - k, by omega⟩
  rw [hf, nxtF, if_neg h, show 256 - (k + 1) = f by omega]
theorem nxtF_spec (c : BitVec 256) (b : Bool) (f : Nat) : ∀ k, k + f = 256 → k ≤ nxtF c b f k ∧ nxtF c b f k ≤ 256 ∧ (nxtF c b f k < 256 → Has c (nxtF c b f k) = b) ∧ ∀ j, k ≤ j → j < nxtF c b f k → Has c j ≠ b := by
  induction f with
  | zero =>
    intro k hk
    refine ⟨Nat.le_refl _, by simp only [nxtF]; omega, fun h => by simp only [nxtF] at h; omega, fun j h1 h2 => by simp only [nxtF] at h2; omega⟩
  | succ f ih =>
    intro k hk
    by_cases h : Has c k = b
    · rw [nxtF, if_pos h]
      exact ⟨Nat.le_refl _, by omega, fun _ => h, fun j h1 h2 => by omega⟩
    · rw [nxtF, if_neg h]
      obtain ⟨a1, a2, a3, a4⟩ := ih (k + 1) (by omega)
      refine ⟨by omega, a2, a3, fun j h1 h2 => ?_⟩
      by_cases e : j = k
      · rw [e]; exact h
      · exact a4 j (by omega) h2
theorem nxt_spec (c : BitVec 256) (b : Bool) (k : Nat) (hk : k ≤ 256) : k ≤ nxt c b k ∧ nxt c b k ≤ 256 ∧ (nxt c b k < 256 → Has c (nxt c b k) = b) ∧ ∀ j, k ≤ j → j < nxt c b k → Has c j ≠ b :=
  nxtF_spec c b (256 - k) k (by omega)

/-- The bytes from lo to hi. -/
def rng (lo hi : Nat) : BitVec 256 := (BitVec.allOnes 256 >>> (255 - hi + lo)) <<< lo
theorem has_rng (lo hi k : Nat) (hk : k < 256) (hh : hi ≤ 255) : Has (rng lo hi) k = (decide (lo ≤ k) && decide (k ≤ hi)) := by
  unfold Has rng
  simp only [BitVec.getLsbD_shiftLeft, BitVec.getLsbD_ushiftRight, BitVec.getLsbD_allOnes]
  by_cases h : lo ≤ k
  · have h1 : ¬ k < lo := by omega
    simp only [hk, h, h1, decide_true, decide_false, Bool.not_false, Bool.true_and]
    apply decide_eq_decide.2
    omega
  · have h1 : k < lo := by omega
    simp [h, h1]
theorem wd_rng (lo hi k a b : Nat) (_ : k < 4) (_ : lo ≤ 64 * k + 63) (h2 : 64 * k ≤ hi) (_ : lo ≤ hi) (hh : hi ≤ 255) (ha : a = 63 - min (hi - 64 * k) 63 + (lo - 64 * k)) (hb : b = lo - 64 * k) :
    IntKind.u64.wrap (18446744073709551615 / 2 ^ a * 2 ^ b) = wd (rng lo hi) k := by
  have e1 : IntKind.u64.wrap (18446744073709551615 / 2 ^ a * 2 ^ b) = (((BitVec.allOnes 64 >>> a) <<< b).toNat : Int) := by
    rw [IntKind.wrap_u64, BitVec.toNat_shiftLeft, BitVec.toNat_ushiftRight, Nat.shiftRight_eq_div_pow, Nat.shiftLeft_eq]
    rw [show (BitVec.allOnes 64).toNat = 18446744073709551615 from rfl, show 2 ^ 64 = 18446744073709551616 from rfl]
    simp
  rw [e1]
  unfold wd
  congr 2
  apply BitVec.eq_of_getLsbD_eq
  intro i hi2
  have hr := has_rng lo hi (64 * k + i) (by omega) hh
  unfold Has at hr
  rw [BitVec.getLsbD_extractLsb', hr]
  simp only [BitVec.getLsbD_shiftLeft, BitVec.getLsbD_ushiftRight, BitVec.getLsbD_allOnes, hi2, decide_true, Bool.true_and]
  by_cases c : i < b
  · have : ¬ lo ≤ 64 * k + i := by omega
    simp [c, this]
  · have : lo ≤ 64 * k + i := by omega
    simp only [c, this, decide_true, decide_false, Bool.not_false, Bool.true_and]
    apply decide_eq_decide.2
    omega
theorem wd_rng_out (lo hi k : Nat) (hk : k < 4) (hh : hi ≤ 255) (h1 : hi < 64 * k ∨ 64 * k + 63 < lo) : wd (rng lo hi) k = 0 := by
  unfold wd
  have : (rng lo hi).extractLsb' (64 * k) 64 = 0 := by
    apply BitVec.eq_of_getLsbD_eq
    intro i hi2
    have hr := has_rng lo hi (64 * k + i) (by omega) hh
    unfold Has at hr
    rw [BitVec.getLsbD_extractLsb', hr]
    simp
    omega
  rw [this]
  rfl
/-- Word j of what a loop over the words has made so far. -/
def sw (r : BitVec 256) (j k : Nat) : Int := if j < k then wd r j else 0
theorem sw_lt (r : BitVec 256) {j k : Nat} (h : j < k) : sw r j k = wd r j := if_pos h
theorem sw_ge (r : BitVec 256) {j k : Nat} (h : ¬ j < k) : sw r j k = 0 := if_neg h
theorem sw_step (r : BitVec 256) {j k : Nat} (h : j ≠ k) : sw r j (k + 1) = sw r j k := by
  unfold sw; by_cases h2 : j < k
  · rw [if_pos h2, if_pos (by omega)]
  · rw [if_neg h2, if_neg (by omega)]
theorem sw_out (r : BitVec 256) (k : Nat) (h : wd r k = 0) : sw r k (k + 1) = sw r k k := by
  rw [sw_lt r (by omega), sw_ge r (by omega), h]

theorem wd_zero (i : Nat) : wd 0#256 i = 0 := by
  unfold wd
  have : (0#256).extractLsb' (64 * i) 64 = 0 := by
    apply BitVec.eq_of_getLsbD_eq
    intro k hk
    simp
  rw [this]
  rfl
theorem wd_zero' (i : Nat) : wd (0 : BitVec 256) i = 0 := wd_zero i
theorem eq_wd (c d : BitVec 256) : (wd c 0 == wd d 0 && (wd c 1 == wd d 1 && (wd c 2 == wd d 2 && wd c 3 == wd d 3))) = (c == d) := by
  rw [Bool.eq_iff_iff]
  simp only [Bool.and_eq_true, beq_iff_eq]
  constructor
  · rintro ⟨a, b, e, f⟩; exact wd_inj a b e f
  · rintro rfl; exact ⟨rfl, rfl, rfl, rfl⟩

/-- The bits of a word, told by Go's own sums. -/
def ones1 (x : Int) : Int := IntKind.u64.wrap (bits .and .u64 (x / 2) 6148914691236517205 + bits .and .u64 x 6148914691236517205)
def ones2 (x : Int) : Int := IntKind.u64.wrap (bits .and .u64 (x / 4) 3689348814741910323 + bits .and .u64 x 3689348814741910323)
def ones3 (x : Int) : Int := bits .and .u64 (IntKind.u64.wrap (x / 16 + x)) 1085102592571150095
def ones4 (x : Int) : Int := IntKind.u64.wrap (x + x / 256)
def ones5 (x : Int) : Int := IntKind.u64.wrap (x + x / 65536)
def ones6 (x : Int) : Int := IntKind.u64.wrap (x + x / 4294967296)
def ones7 (x : Int) : Int := bits .and .i64 (wrap64 x) 127
def ones (x : Int) : Int := ones6 (ones5 (ones4 (ones3 (ones2 (ones1 x)))))
end Go.Proofs.YtjlcoldnhbkcgaaGreatDoor
namespace Go.Proofs.YtjlcoldnhbkcgaaGreatDoor
open Go.RowKit

/-- What is wrong (its number, its place), or what comes of it and the place behind it. -/
abbrev Got (α : Type) : Type := (Nat × Nat) ⊕ (α × Nat)
/-- What can't stand at a place. -/
def wrongAt (s : List UInt8) (a : Nat) : Nat × Nat := if s.length ≤ a then (3, s.length) else (4, a)
/-- A digit's number; 16: it is none. -/
def digV (c : Nat) : Nat := if 48 ≤ c ∧ c ≤ 57 then c - 48 else if 97 ≤ c ∧ c ≤ 102 then c - 87 else 16
/-- The byte at a place; 256: there is none. -/
def byteAt (s : List UInt8) (a : Nat) : Nat := match s[a]? with | some c => c.toNat | none => 256
/-- The second digit. -/
def lowAt (s : List UInt8) (h a : Nat) : Got Nat := if digV (byteAt s a) = 16 then .inl (wrongAt s a) else .inr (16 * h + digV (byteAt s a), a + 1)
/-- Two digits. -/
def hexAt (s : List UInt8) (a : Nat) : Got Nat := if digV (byteAt s a) = 16 then .inl (wrongAt s a) else lowAt s (digV (byteAt s a)) (a + 1)
/-- What stands behind a backslash. -/
def escAt (s : List UInt8) (a : Nat) : Got Nat :=
  if byteAt s a = 110 then .inr (10, a + 1) else if byteAt s a = 114 then .inr (13, a + 1) else if byteAt s a = 116 then .inr (9, a + 1)
  else if fiveB (byteAt s a) then .inr (byteAt s a, a + 1) else if byteAt s a = 120 then hexAt s (a + 1) else .inl (wrongAt s a)
/-- A sign. -/
def sgnAt (s : List UInt8) (a : Nat) : Got Nat :=
  if byteAt s a = 92 then escAt s (a + 1) else if fiveB (byteAt s a) = true ∨ byteAt s a < 32 ∨ 126 < byteAt s a then .inl (wrongAt s a) else .inr (byteAt s a, a + 1)
/-- The sign behind a dash, if there is one. -/
def hiAt (s : List UInt8) (lo n : Nat) : Got Nat := if byteAt s n = 45 then sgnAt s (n + 1) else .inr (lo, n)
/-- A member. -/
def memAt (s : List UInt8) (a : Nat) : Got (BitVec 256) :=
  match sgnAt s a with
  | .inl e => .inl e
  | .inr (lo, n) => match hiAt s lo n with
    | .inl e => .inl e
    | .inr (hi, m) => if hi < lo then .inl (4, a) else .inr (rng lo hi, m)
/-- The members up to the end. -/
def memsAt (s : List UInt8) : Nat → Nat → BitVec 256 → Got (BitVec 256)
  | 0, a, _ => .inl (3, a)
  | f + 1, a, c => if byteAt s a = 93 then .inr (c, a + 1) else match memAt s a with
    | .inl e => .inl e
    | .inr (m, n) => memsAt s f n (c ||| m)
/-- A class. -/
def parsed (s : List UInt8) : Got (BitVec 256) :=
  if byteAt s 0 = 91 then
    if byteAt s 1 = 94 then match memsAt s (s.length + 1) 2 0 with
      | .inl e => .inl e
      | .inr (c, n) => .inr (~~~c, n)
    else memsAt s (s.length + 1) 1 0
  else .inl (wrongAt s 0)

theorem byteAt_lt {s : List UInt8} {a : Nat} (h : a < s.length) : byteAt s a = s[a].toNat := by simp [byteAt, h]
theorem byteAt_bd {s : List UInt8} {a : Nat} (h : a < s.length) : byteAt s a < 256 := by rw [byteAt_lt h]; exact UInt8.toNat_lt _
theorem byteAt_ge {s : List UInt8} {a : Nat} (h : s.length ≤ a) : byteAt s a = 256 := by simp [byteAt, h]
theorem byteAt_in {s : List UInt8} {a : Nat} (h : byteAt s a < 256) : a < s.length := by
  rcases Nat.lt_or_ge a s.length with h1 | h1
  · exact h1
  · rw [byteAt_ge h1] at h; omega
theorem byteAt_le (s : List UInt8) (a : Nat) : byteAt s a ≤ 256 := by
  rcases Nat.lt_or_ge a s.length with h | h
  · have := byteAt_bd h; omega
  · rw [byteAt_ge h]; omega
theorem wrongAt_in {s : List UInt8} {a : Nat} (h : a < s.length) : wrongAt s a = (4, a) := by rw [wrongAt, if_neg (by omega)]
theorem wrongAt_out {s : List UInt8} {a : Nat} (h : s.length ≤ a) : wrongAt s a = (3, s.length) := by rw [wrongAt, if_pos h]
theorem digV_le : ∀ c, digV c ≤ 16 := by intro c; unfold digV; split <;> (try split) <;> omega
theorem digV_in {c : Nat} (h : digV c ≠ 16) : c < 256 := by unfold digV at h; split at h <;> (try split at h) <;> omega
theorem lowAt_bd {s : List UInt8} {h a c n : Nat} (hh : h < 16) (e : lowAt s h a = .inr (c, n)) : c < 256 ∧ n = a + 1 ∧ n ≤ s.length := by
  unfold lowAt at e
  have := digV_le (byteAt s a)
  split at e
  · cases e
  · next hd =>
    have := byteAt_in (digV_in hd)
    simp at e; omega
theorem hexAt_bd {s : List UInt8} {a c n : Nat} (e : hexAt s a = .inr (c, n)) : c < 256 ∧ n = a + 2 ∧ n ≤ s.length := by
  unfold hexAt at e
  have := digV_le (byteAt s a)
  split at e
  · cases e
  · have := lowAt_bd (by omega) e
    omega
theorem escAt_bd {s : List UInt8} {a c n : Nat} (e : escAt s a = .inr (c, n)) : c < 256 ∧ a < n ∧ n ≤ s.length := by
  unfold escAt at e
  have hb := @byteAt_in s a
  split at e
  · simp at e; omega
  split at e
  · simp at e; omega
  split at e
  · simp at e; omega
  split at e
  · next h =>
    have := five_list h
    simp at e; omega
  split at e
  · have := hexAt_bd e; omega
  · cases e
theorem sgnAt_bd {s : List UInt8} {a c n : Nat} (e : sgnAt s a = .inr (c, n)) : c < 256 ∧ a < n ∧ n ≤ s.length := by
  unfold sgnAt at e
  have hb := @byteAt_in s a
  split at e
  · have := escAt_bd e; omega
  split at e
  · cases e
  · simp at e; omega
theorem hiAt_bd {s : List UInt8} {lo a c n : Nat} (h : lo < 256) (ha : a ≤ s.length) (e : hiAt s lo a = .inr (c, n)) : c < 256 ∧ a ≤ n ∧ n ≤ s.length := by
  unfold hiAt at e
  split at e
  · have := sgnAt_bd e; omega
  · simp at e; omega
theorem memAt_bd {s : List UInt8} {a n : Nat} {m : BitVec 256} (e : memAt s a = .inr (m, n)) : a < n ∧ n ≤ s.length := by
  unfold memAt at e
  split at e
  · cases e
  · next lo k h1 =>
    have b1 := sgnAt_bd h1
    split at e
    · cases e
    · next hi k2 h2 =>
      have b2 := hiAt_bd (by omega) (by omega) h2
      split at e
      · cases e
      · simp at e; omega
theorem memsAt_bd {s : List UInt8} : ∀ {f a n : Nat} {c m : BitVec 256}, memsAt s f a c = .inr (m, n) → a < n ∧ n ≤ s.length := by
  intro f
  induction f with
  | zero => intro a n c m h; cases h
  | succ f ih =>
    intro a n c m h
    rw [memsAt] at h
    split at h
    · next hb => have := @byteAt_in s a; simp at h; omega
    · split at h
      · cases h
      · next m' n' e => have := memAt_bd e; have := ih h; omega
end Go.Proofs.YtjlcoldnhbkcgaaGreatDoor
