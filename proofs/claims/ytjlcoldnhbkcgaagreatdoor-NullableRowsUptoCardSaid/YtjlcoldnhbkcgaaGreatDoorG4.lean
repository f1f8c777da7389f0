/- The rows of a class: plain facts. | Two classes compared; two pairs of ints compared. | The walk of Runs. | The walks of class.reader's methods pick, is, wrong. -/
import Derived.Test.YtjlcoldnhbkcgaaGreatDoorG3
import Derived.Test.YtjlcoldnhbkcgaaGreatDoorProg
import Derived.Test.YtjlcoldnhbkcgaaGreatDoorG0
import Derived.WalkKit
import Derived.Deep.Onto
import Derived.Lib.QuietBelow
import Derived.Maps.AppendAt
namespace Go.Proofs.YtjlcoldnhbkcgaaGreatDoor
open Go.RowKit

/-- The rows of a class from lo on. -/
def runsF (c : BitVec 256) : Nat → Nat → List (Nat × Nat)
  | 0, _ => []
  | f + 1, lo => if lo < 256 then (lo, nxt c false lo - 1) :: runsF c f (nxt c true (nxt c false lo)) else []
def runs (c : BitVec 256) : List (Nat × Nat) := runsF c 257 (nxt c true 0)
/-- Pairs as cells. -/
def pairs : List (Nat × Nat) → List Value
  | [] => []
  | p :: l => .int .i64 (p.1 : Int) :: .int .i64 (p.2 : Int) :: pairs l
theorem pairs_append (a b : List (Nat × Nat)) : pairs (a ++ b) = pairs a ++ pairs b := by
  induction a with
  | nil => rfl
  | cons p a ih => simp [pairs, ih]
theorem pairs_length (l : List (Nat × Nat)) : (pairs l).length = l.length * 2 := by
  induction l with
  | nil => rfl
  | cons p l ih => simp [pairs, ih]; omega
theorem pairs_get (l : List (Nat × Nat)) (i : Nat) (p : Nat × Nat) (h : l[i]? = some p) : (pairs l)[i * 2]? = some (.int .i64 (p.1 : Int)) ∧ (pairs l)[i * 2 + 1]? = some (.int .i64 (p.2 : Int)) := by
  induction l generalizing i with
  | nil => simp at h
  | cons q l ih =>
    cases i with
    | zero => simp at h; subst h; exact ⟨rfl, rfl⟩
    | succ i =>
      have := ih i (by simpa using h)
      rw [show (i + 1) * 2 = i * 2 + 1 + 1 by omega]
      simpa [pairs] using this
theorem nxt_gt {c : BitVec 256} {lo : Nat} (h : lo < 256) (hb : Has c lo = true) : lo < nxt c false lo := by
  rw [nxt_miss h (by rw [hb]; decide)]
  exact (nxt_spec c false (lo + 1) (by omega)).1
theorem nxt_le {c : BitVec 256} {b : Bool} {lo : Nat} (h : lo ≤ 256) : nxt c b lo ≤ 256 := (nxt_spec c b lo h).2.1
theorem nxt_ge {c : BitVec 256} {b : Bool} {lo : Nat} (h : lo ≤ 256) : lo ≤ nxt c b lo := (nxt_spec c b lo h).1
theorem nxt_has {c : BitVec 256} {b : Bool} {lo : Nat} (h : lo ≤ 256) (h2 : nxt c b lo < 256) : Has c (nxt c b lo) = b := (nxt_spec c b lo h).2.2.1 h2
theorem runs_step {c : BitVec 256} {f lo : Nat} (h : lo < 256) : runsF c (f + 1) lo = (lo, nxt c false lo - 1) :: runsF c f (nxt c true (nxt c false lo)) := by
  rw [runsF, if_pos h]
theorem runs_end (c : BitVec 256) (f : Nat) : runsF c f 256 = [] := by
  cases f <;> simp [runsF]
theorem runs_zero : runs 0#256 = [] := by
  have h : nxt 0#256 true 0 = 256 := by
    have s := nxt_spec 0#256 true 0 (by decide)
    apply Nat.le_antisymm s.2.1
    apply Nat.le_of_not_lt
    intro hlt
    have := s.2.2.1 hlt
    simp [Has] at this
  unfold runs
  rw [h, runs_end]
theorem runs_len (c : BitVec 256) : ∀ f lo, (runsF c f lo).length ≤ f := by
  intro f
  induction f with
  | zero => intro lo; exact Nat.le_refl _
  | succ f ih =>
    intro lo
    rw [runsF]
    split
    · simp only [List.length_cons]; have := ih (nxt c true (nxt c false lo)); omega
    · simp
end Go.Proofs.YtjlcoldnhbkcgaaGreatDoor
namespace Go.Proofs.YtjlcoldnhbkcgaaGreatDoor
open Go.RowKit
theorem guard_cl : Tryz.prog.eqGuardType Tryz.prog.depth 37 = false := by kernel_rfl
theorem size_word (w : World) : (sizeOf 35).run Tryz.prog w = .ok 1 w := by kernel_rfl
theorem equal_cl4 (w : World) (a0 a1 a2 a3 b0 b1 b2 b3 : Int) :
    (Op.equalIn 10000 37 (.agg #[.int .u64 a0, .int .u64 a1, .int .u64 a2, .int .u64 a3]) (.agg #[.int .u64 b0, .int .u64 b1, .int .u64 b2, .int .u64 b3])).run Tryz.prog w = .ok (a0 == b0 && (a1 == b1 && (a2 == b2 && a3 == b3))) w := by
  have e := fun (x y : Int) (w : World) => run_equalIn_int (P := Tryz.prog) w 9998 35 .u64 .u64 x y Tryz.underlying35
  rw [show 10000 = 9999 + 1 from rfl]
  unfold Op.equalIn
  simp only [Sem.run_bind, run_underlying Tryz.underlying37, Result.andThen_ok, size_word]
  simp [List.range', part, Sem.run_bind, e]
  by_cases h0 : a0 = b0 <;> by_cases h1 : a1 = b1 <;> by_cases h2 : a2 = b2 <;> by_cases h3 : a3 = b3 <;> simp [h0, h1, h2, h3]
theorem equal_cl (w : World) (c d : BitVec 256) : (Op.equalIn 10000 37 (.agg #[.int .u64 (wd c 0), .int .u64 (wd c 1), .int .u64 (wd c 2), .int .u64 (wd c 3)]) (.agg #[.int .u64 (wd d 0), .int .u64 (wd d 1), .int .u64 (wd d 2), .int .u64 (wd d 3)])).run Tryz.prog w = .ok (c == d) w := by
  rw [equal_cl4, eq_wd]
theorem equal_pair (w : World) (a0 a1 b0 b1 : Int) :
    (Op.equalIn 10000 196 (.agg #[.int .i64 a0, .int .i64 a1]) (.agg #[.int .i64 b0, .int .i64 b1])).run Tryz.prog w = .ok (a0 == b0 && a1 == b1) w := by
  have e := fun (x y : Int) (w : World) => run_equalIn_int (P := Tryz.prog) w 9998 3 .i64 .i64 x y Tryz.underlying3
  have sz : ∀ w, (sizeOf 3).run Tryz.prog w = .ok 1 w := fun _ => by kernel_rfl
  rw [show 10000 = 9999 + 1 from rfl]
  unfold Op.equalIn
  simp only [Sem.run_bind, run_underlying Tryz.underlying196, Result.andThen_ok, sz]
  simp [List.range', part, Sem.run_bind, e]
  by_cases h0 : a0 = b0 <;> by_cases h1 : a1 = b1 <;> simp [h0, h1]
theorem guard_pair : Tryz.prog.eqGuardType Tryz.prog.depth 196 = false := by kernel_rfl
end Go.Proofs.YtjlcoldnhbkcgaaGreatDoor
namespace Go.Proofs.YtjlcoldnhbkcgaaGreatDoor
open Go.RowKit Go.Sort

/-- It answers a slice of its own that holds these cells. -/
def AnsRow (E size n : Nat) (xs : List Value) (w : World) (e : Ending) (w' : World) : Prop := ∃ v, e = .returned v ∧ w'.ownsRow w.heap.size E size v n xs ∧ Below w.heap.size w w'
theorem cells_at {w : World} {b : Nat} {cs : Array Value} {t : TypeId} (h : w.heap[b]? = some (.cells cs t (0, 0))) : (∀ j, w.cell? ⟨b, j, none⟩ = cs[j]?) ∧ (∀ j, w.frozen? ⟨b, j, none⟩ = false) ∧ b < w.heap.size :=
  ⟨fun j => by simp [World.cell?, h], fun j => frozen_of_row w b j cs t h, (Array.getElem?_eq_some_iff.1 h).1⟩
theorem owns_form {w : World} {base : Nat} {e : TypeId} {size : Nat} {v : Value} {n : Nat} {xs : List Value} (h : w.ownsRow base e size v n xs) : (n = 0 ∧ v = .slice none 0 0) ∨ (∃ cap, v = .slice (some ⟨(v.ownBlock).getD 0, 0, none⟩) n cap) := by
  rcases h.2 with ⟨rfl, rfl⟩ | ⟨g, cap, cur, rfl, _⟩
  · exact .inl ⟨rfl, rfl⟩
  · exact .inr ⟨cap, rfl⟩
theorem owns_below {w w' : World} {base : Nat} {e : TypeId} {size : Nat} {v : Value} {n : Nat} {xs : List Value} (h : w.ownsRow base e size v n xs) (hb : Below w.heap.size w w') : w'.ownsRow base e size v n xs :=
  h.kept (row := none) ⟨hb.os, hb.tape, hb.output, hb.size, fun k hk _ => hb.block k hk⟩ (by cases v.ownBlock <;> simp)
theorem below_grown {a w w' : World} {row : Option Nat} (h : Below a.heap.size a w) (hg : w.grownBy w' row) (hr : ∀ k, row = some k → a.heap.size ≤ k) : Below a.heap.size a w' := h.grown hg h.size hr
theorem info_pair : (Tryz.prog.info? 196).map (fun i => (i.zero, i.size, i.bytes)) = some (some (.agg #[.int .i64 0, .int .i64 0]), 2, 16) := by kernel_rfl
theorem next_nat (c : BitVec 256) (k : Nat) (b : Bool) (w : World) (h : k ≤ 256) : Calls Tryz.prog 137 #[.agg #[.int .u64 (wd c 0), .int .u64 (wd c 1), .int .u64 (wd c 2), .int .u64 (wd c 3)], .int .i64 k, .bool b] w (Ans (.int .i64 (nxt c b k)) w) := next_any c k b w (by omega) (by omega)

set_option maxRecDepth 100000 in
set_option maxHeartbeats 1600000 in
theorem runs_any (c : BitVec 256) (w : World) : Calls Tryz.prog 122 #[.agg #[.int .u64 (wd c 0), .int .u64 (wd c 1), .int .u64 (wd c 2), .int .u64 (wd c 3)]] w (AnsRow 196 2 (runs c).length (pairs (runs c)) w) := by
  have f7 := guard_cl
  have f8 : ∀ w, (Op.equalIn 10000 37 (.agg #[.int .u64 (wd c 0), .int .u64 (wd c 1), .int .u64 (wd c 2), .int .u64 (wd c 3)]) (.agg #[.int .u64 0, .int .u64 0, .int .u64 0, .int .u64 0])).run Tryz.prog w = .ok (c == 0#256) w := fun w => by
    have := equal_cl w c 0#256
    rwa [wd_zero, wd_zero, wd_zero, wd_zero] at this
  obtain ⟨i0, iH, iz, is, ib⟩ := info_parts info_pair
  by_cases hc0 : c = 0#256
  · subst hc0
    go_enter Tryz.func122, Tryz.ntmps122
    repeat (first | go_values | go_skip | go_guarded | go_step | go_upon)
    go_ret
    rw [runs_zero]
    exact ⟨_, rfl, World.ownsRow_nil _ _ _ _, (by repeat (first | exact Below.refl _ _ | assumption | refine bal ?_ _ | refine bdr ?_ | refine bdrn ?_ _ | (refine bset ?_ (by first | exact Nat.le_refl _ | (simp; done) | (simp; omega) | omega) _) | refine bstep ?_ (by assumption)))⟩
  · have hb0 : (c == 0#256) = false := by simpa using hc0
    clear hc0
    go_enter Tryz.func122, Tryz.ntmps122
    repeat (first | go_values | go_skip | go_guarded | go_step | go_upon)
    refine (next_nat c 0 true _ (by decide)).mono ?_
    rintro e w1 ⟨rfl, hb1⟩
    obtain ⟨hc1, hf1⟩ := bcell hb1
    have hz1 := hb1.size
    try simp at hz1
    have q1_0 : w.heap.size < w1.heap.size := by omega
    dsimp only
    repeat (first | go_values | go_skip | go_guarded | go_step | go_upon)
    go_loopw [3, 4] (fun v t wr => ∃ (done : List (Nat × Nat)) (f lo : Nat), t = .int .i64 lo ∧ lo ≤ 256 ∧ Hid (done ++ runsF c f lo = runs c) ∧ 256 < f + lo ∧ done.length + f ≤ 257 ∧ (lo < 256 → Has c lo = true) ∧ wr.ownsRow (w.heap.size + 1) 196 2 v done.length (pairs done) ∧ Below (w.alloc (.cells #[.int .u64 (wd c 0), .int .u64 (wd c 1), .int .u64 (wd c 2), .int .u64 (wd c 3)] 37)).heap.size (w.alloc (.cells #[.int .u64 (wd c 0), .int .u64 (wd c 1), .int .u64 (wd c 2), .int .u64 (wd c 3)] 37)) wr) (fun _ t _ => 256 - (intOf t).toNat)
    case atStart => exact ⟨[], 257, nxt c true 0, rfl, nxt_le (by decide), Lib.hid rfl, by omega, by simp, fun h => nxt_has (by decide) h, World.ownsRow_nil _ _ _ _, by assumption⟩
    case round =>
      obtain ⟨done, f, lo, rfl, hlo, hd, hf, hdf, hhas, hown, hb⟩ := hrel
      obtain ⟨hc, hfz⟩ := bcell hb
      have hzr := hb.size
      simp at hzr
      have qr : w.heap.size < wr.heap.size := by omega
      by_cases hlt : lo < 256
      · obtain ⟨f, rfl⟩ : ∃ g, f = g + 1 := ⟨f - 1, by omega⟩
        have hgt := nxt_gt hlt (hhas hlt)
        have hle := nxt_le (c := c) (b := false) hlo
        have hstep := Lib.hid (runs_step (c := c) (f := f) hlt)
        clear hhas
        repeat (first | go_values | go_skip | go_guarded | go_step | go_upon)
        refine (next_nat c lo false _ hlo).mono ?_
        rintro e w2 ⟨rfl, hb2⟩
        obtain ⟨hc2, hf2⟩ := bcell hb2
        have hz2 := hb2.size
        try simp at hz2
        have q2_0 : w.heap.size < w2.heap.size := by omega
        dsimp only
        have hown2 := owns_below hown hb2
        generalize hhi : nxt c false lo = hi2 at *
        repeat (first | (at_builtin; refine wpList_append_own _ rfl _ _ 194 rfl (w.heap.size + 1) 196 i0 (.agg #[.int .i64 0, .int .i64 0]) 2 16 Tryz.underlying194 iH iz is ib rfl (by decide) _ _ _ rfl (hown2.alloc _) ⟨w2.heap.size, 0, none⟩ 1 1 [.int .i64 (lo : Int), .int .i64 ((hi2 : Int) - 1)] rfl rfl ?c1 ?c2 ?c3 ?c4 ?c5 ?c6) | go_values | go_skip | go_guarded | go_step | go_upon)
        case c1 => exact cell_two_new _ _ _ _
        case c2 => simp [Value.oneCell']
        case c3 => unfold maxLen; omega
        case c4 => omega
        case c5 => simp; omega
        case c6 =>
          intro v3 w3 hown3 hgr3 _
          have hb3 : Below (w.alloc (.cells #[.int .u64 (wd c 0), .int .u64 (wd c 1), .int .u64 (wd c 2), .int .u64 (wd c 3)] 37)).heap.size (w.alloc (.cells #[.int .u64 (wd c 0), .int .u64 (wd c 1), .int .u64 (wd c 2), .int .u64 (wd c 3)] 37)) w3 :=
            below_grown (bal (bstep hb hb2) _) hgr3 (fun k hk => by have := (hown2.lt k hk).1; simp; omega)
          obtain ⟨hc3, hfz3⟩ := bcell hb3
          have hz3 := hb3.size
          simp at hz3
          have q3 : w.heap.size < w3.heap.size := by omega
          repeat (first | go_values | go_skip | go_guarded | go_step | go_upon)
          refine (next_nat c hi2 true _ hle).mono ?_
          rintro e w4 ⟨rfl, hb4⟩
          obtain ⟨hc4, hf4⟩ := bcell hb4
          have hz4 := hb4.size
          try simp at hz4
          have q4_0 : w.heap.size < w4.heap.size := by omega
          dsimp only
          have hown4 := owns_below hown3 hb4
          repeat (first | go_values | go_skip | go_guarded | go_step | go_upon)
          refine ⟨⟨done ++ [(lo, hi2 - 1)], f, nxt c true hi2, rfl, nxt_le hle, Lib.hid ?_, ?_, ?_, fun h => nxt_has hle h, ?_, ?_⟩, ?_⟩
          · rw [← hd.out, hstep.out]; simp
          · have := nxt_ge (c := c) (b := true) hle; omega
          · simp; omega
          · rw [pairs_append, List.length_append]
            have e : ((hi2 : Int) - 1) = ((hi2 - 1 : Nat) : Int) := by omega
            rw [e] at hown4
            exact hown4
          · exact bstep hb3 hb4
          · have := nxt_ge (c := c) (b := true) hle
            simp [intOf]; omega
      · obtain rfl : lo = 256 := by omega
        have hd2 := hd.out
        rw [runs_end, List.append_nil] at hd2
        have HD := Lib.hid hd2
        clear hd2 hhas
        repeat (first | go_values | go_skip | go_guarded | go_step | go_upon)
        go_ret
        rw [← HD.out]
        exact ⟨_, rfl, World.ownsRow.mono hown (by omega), bstep (bal (Below.refl _ _) _) hb⟩
end Go.Proofs.YtjlcoldnhbkcgaaGreatDoor
namespace Go.Proofs.YtjlcoldnhbkcgaaGreatDoor
open Go.RowKit Go.Sort

/-- A string's bytes. -/
def bl (S : ByteArray) : List UInt8 := S.data.toList
theorem bl_length (S : ByteArray) : (bl S).length = S.size := by rw [bl, Array.length_toList]; rfl
theorem byteAt_ba {S : ByteArray} {a : Nat} (h : a < S.size) : byteAt (bl S) a = S[a].toNat := by
  rw [byteAt_lt (by rw [bl_length]; exact h)]; rfl
theorem byteAt_bge {S : ByteArray} {a : Nat} (h : S.size ≤ a) : byteAt (bl S) a = 256 := byteAt_ge (by rw [bl_length]; exact h)
theorem wrongAt_bout {S : ByteArray} {a : Nat} (h : S.size ≤ a) : wrongAt (bl S) a = (3, S.size) := by rw [wrongAt_out (by rw [bl_length]; exact h), bl_length]
theorem wrongAt_bin {S : ByteArray} {a : Nat} (h : a < S.size) : wrongAt (bl S) a = (4, a) := wrongAt_in (by rw [bl_length]; exact h)
/-- A reader at R over s, at a place. -/
def RD (R : Nat) (S : ByteArray) (a : Nat) (w : World) : Prop := w.heap[R]? = some (.cells #[.string S, .int .i64 (a : Int)] 206 (0, 0))
/-- Behind the call the reader stands at a place; nothing else has changed. -/
def Rto (R : Nat) (S : ByteArray) (a : Nat) (w w' : World) : Prop := RD R S a w' ∧ w.grownBy w' (some R)
/-- Which of these bytes that one is. -/
def pk (of : List UInt8) (b : Nat) : Int := if b < 256 then Lib.indexByte of b.toUInt8 else -1
theorem pk_letters : ∀ b, b < 257 → pk [110, 114, 116] b = if b = 110 then 0 else if b = 114 then 1 else if b = 116 then 2 else -1 := by decide +kernel
theorem pk_marked : ∀ b, b < 257 → pk [91, 93, 92, 45, 94] b = if b = 91 then 0 else if b = 93 then 1 else if b = 92 then 2 else if b = 45 then 3 else if b = 94 then 4 else -1 := by decide +kernel
theorem pk_hexes : ∀ b, b < 257 → pk [48, 49, 50, 51, 52, 53, 54, 55, 56, 57, 97, 98, 99, 100, 101, 102] b = if digV b = 16 then (-1 : Int) else (digV b : Int) := by decide +kernel
theorem pk_one (x : Nat) : x < 256 → ∀ b, b < 257 → pk [x.toUInt8] b = if b = x then 0 else -1 := by
  intro hx b hb
  unfold pk Lib.indexByte Lib.indexByte
  by_cases h : b = x
  · subst h; simp [hx]
  · have : ¬ (x.toUInt8 == b.toUInt8) = true ∨ ¬ b < 256 := by
      rcases Nat.lt_or_ge b 256 with h1 | h1
      · left
        intro e
        have e := congrArg UInt8.toNat (eq_of_beq e)
        simp at e
        omega
      · right; omega
    rw [if_neg h]
    split
    · rcases this with h1 | h1
      · rw [if_neg h1]; simp
      · contradiction
    · rfl
theorem rd_set {R : Nat} {S : ByteArray} {a n : Nat} {w : World} (h : RD R S a w) : RD R S n (w.setCell ⟨R, 1, none⟩ (.int .i64 (n : Int))) := by
  unfold RD at *
  have hlt : R < w.heap.size := (Array.getElem?_eq_some_iff.1 h).1
  have e : w.heap[R] = .cells #[.string S, .int .i64 (a : Int)] 206 (0, 0) := (Array.getElem?_eq_some_iff.1 h).2
  simp [World.setCell, Array.getElem?_modify, h]
theorem rd_lt {R : Nat} {S : ByteArray} {a : Nat} {w : World} (h : RD R S a w) : R < w.heap.size := (Array.getElem?_eq_some_iff.1 h).1
theorem rd_cells {R : Nat} {S : ByteArray} {a : Nat} {w : World} (h : RD R S a w) : w.cell? ⟨R, 0, none⟩ = some (.string S) ∧ w.cell? ⟨R, 1, none⟩ = some (.int .i64 (a : Int)) ∧ (∀ j, w.frozen? ⟨R, j, none⟩ = false) :=
  ⟨(cells_at h).1 0, (cells_at h).1 1, (cells_at h).2.1⟩
theorem gset1 (w : World) (R : Nat) (v : Value) : w.grownBy (w.setCell ⟨R, 1, none⟩ v) (some R) := ⟨rfl, rfl, rfl, by simp, fun k _ hk => heap_setCell_other w ⟨R, 1, none⟩ k v (fun e => hk (by simp [e]))⟩
theorem grefl (w : World) (r : Option Nat) : w.grownBy w r := ⟨rfl, rfl, rfl, Nat.le_refl _, fun _ _ _ => rfl⟩

theorem below_rto {R : Nat} {S : ByteArray} {a : Nat} {w w' : World} (h : RD R S a w) (hb : Below w.heap.size w w') : Rto R S a w w' :=
  ⟨(hb.block _ (rd_lt h)).trans h, hb.os, hb.tape, hb.output, hb.size, fun k hk _ => hb.block k hk⟩
theorem rto_trans {R : Nat} {S : ByteArray} {a b : Nat} {w w1 w2 : World} (h : Rto R S a w w1) (k : Rto R S b w1 w2) : Rto R S b w w2 := ⟨k.1, h.2.trans k.2⟩
theorem rto_set {R : Nat} {S : ByteArray} {a n : Nat} {w w1 : World} (h : Rto R S a w w1) : Rto R S n w (w1.setCell ⟨R, 1, none⟩ (.int .i64 (n : Int))) := ⟨rd_set h.1, h.2.trans (gset1 _ _ _)⟩
theorem rd_grown0 {R : Nat} {S : ByteArray} {a : Nat} {w : World} (h : RD R S a w) (d : Nat) (os : Array Obj) : (grow (redrawn w.drew d) os).cell? ⟨R, 0, none⟩ = some (.string S) := by
  rw [grown_cell w.drew d os ⟨R, 0, none⟩ (rd_lt h)]; exact (rd_cells h).1
theorem rd_grown1 {R : Nat} {S : ByteArray} {a : Nat} {w : World} (h : RD R S a w) (d : Nat) (os : Array Obj) : (grow (redrawn w.drew d) os).cell? ⟨R, 1, none⟩ = some (.int .i64 (a : Int)) := by
  rw [grown_cell w.drew d os ⟨R, 1, none⟩ (rd_lt h)]; exact (rd_cells h).2.1
theorem rd_grown0' {R : Nat} {S : ByteArray} {a : Nat} {w : World} (h : RD R S a w) (d : Nat) (os : Array Obj) : (grow (redrawn w d) os).cell? ⟨R, 0, none⟩ = some (.string S) := by
  rw [grown_cell w d os ⟨R, 0, none⟩ (rd_lt h)]; exact (rd_cells h).1
theorem rd_grown1' {R : Nat} {S : ByteArray} {a : Nat} {w : World} (h : RD R S a w) (d : Nat) (os : Array Obj) : (grow (redrawn w d) os).cell? ⟨R, 1, none⟩ = some (.int .i64 (a : Int)) := by
  rw [grown_cell w d os ⟨R, 1, none⟩ (rd_lt h)]; exact (rd_cells h).2.1
theorem drew_below (w : World) : Below w.heap.size w w.drew := (Below.refl _ _).drew
set_option maxRecDepth 100000 in
set_option maxHeartbeats 1600000 in
theorem pick_no (R : Nat) (S : ByteArray) (a : Nat) (of : List UInt8) (w : World) (h : RD R S a w) (_ : S.size ≤ 140737488355328) (hk : pk of (byteAt (bl S) a) = -1) :
    Calls Tryz.prog 130 #[.pointer (some ⟨R, 0, none⟩), .string ⟨of.toArray⟩] w fun e w' => e = .returned (.int .i64 (-1)) ∧ Rto R S a w w' := by
  obtain ⟨c0, c1, fz⟩ := rd_cells h
  have HR := Lib.hid h
  clear h
  by_cases ha : S.size ≤ a
  · clear hk
    have d1 : decide (S.size ≤ a) = true := by simpa using ha
    go_enter Tryz.func130, Tryz.ntmps130
    repeat (first | go_values | go_skip | go_guarded | go_step | go_upon)
    go_region
    repeat (first | go_values | go_skip | go_guarded | go_step | go_upon)
    go_ret
    exact ⟨rfl, below_rto HR.out (drew_below _)⟩
  · have d1 : decide (S.size ≤ a) = false := by simpa using ha
    have hb := byteAt_ba (Nat.lt_of_not_le ha)
    rw [hb] at hk
    have h2 : Lib.indexByte of (S[a]).toNat.toUInt8 = -1 := by have := UInt8.toNat_lt S[a]; simpa [pk, this] using hk
    have H2 := Lib.hid (fun w' => idx_any ⟨of.toArray⟩ (S[a].toNat : Int) _ w' (by simpa using h2))
    clear hk hb h2
    have hl : a < S.size := by omega
    have hR0 : R < w.heap.size := rd_lt HR.out
    have HR2 := Lib.hid (fun (w2 : World) (hb2 : Below w.drew.heap.size w.drew w2) => (below_rto HR.out (bstep (drew_below _) hb2)).1)
    go_enter Tryz.func130, Tryz.ntmps130
    repeat (first | go_values | go_skip | go_guarded | go_step | go_upon)
    go_region
    have q0 := rd_grown0 HR.out
    have q1 := rd_grown1 HR.out
    repeat (first | go_values | go_skip | go_guarded | go_step | go_upon)
    have hG := grown_cell
    have g2_0 : R < w.heap.size := by omega
    refine wp_region_qb (by kernel_rfl) (by kernel_rfl) ?_
    repeat (quiet_step (first | (with_reducible exact ans_quiet (H2.out _))))
    refine wpQuiet_nil ?_
    intro w2 hb2
    clear hG
    obtain ⟨hc2, hf2⟩ := bcell hb2
    have hz2 := hb2.size
    try simp at hz2
    have q2_0 : R < w2.heap.size := by omega
    clear q0 q1
    obtain ⟨c2, c3, fz2⟩ := rd_cells (HR2.out _ hb2)
    repeat (first | go_values | go_skip | go_guarded | go_step | go_upon)
    go_ret
    exact ⟨rfl, below_rto HR.out (bstep (drew_below _) hb2)⟩
set_option maxRecDepth 100000 in
set_option maxHeartbeats 1600000 in
theorem pick_yes (R : Nat) (S : ByteArray) (a : Nat) (of : List UInt8) (i : Nat) (w : World) (h : RD R S a w) (hs : S.size ≤ 140737488355328) (hk : pk of (byteAt (bl S) a) = i) :
    Calls Tryz.prog 130 #[.pointer (some ⟨R, 0, none⟩), .string ⟨of.toArray⟩] w fun e w' => e = .returned (.int .i64 (i : Int)) ∧ Rto R S (a + 1) w w' := by
  obtain ⟨c0, c1, fz⟩ := rd_cells h
  have HR := Lib.hid h
  clear h
  by_cases ha : S.size ≤ a
  · exfalso
    rw [byteAt_bge ha] at hk
    simp [pk] at hk
  · have d1 : decide (S.size ≤ a) = false := by simpa using ha
    have hb := byteAt_ba (Nat.lt_of_not_le ha)
    rw [hb] at hk
    have h2 : Lib.indexByte of (S[a]).toNat.toUInt8 = i := by have := UInt8.toNat_lt S[a]; simpa [pk, this] using hk
    have H2 := Lib.hid (fun w' => idx_any ⟨of.toArray⟩ (S[a].toNat : Int) _ w' (by simpa using h2))
    clear hk hb h2
    have hl : a < S.size := by omega
    have hR0 : R < w.heap.size := rd_lt HR.out
    have HR2 := Lib.hid (fun (w2 : World) (hb2 : Below w.drew.heap.size w.drew w2) => (below_rto HR.out (bstep (drew_below _) hb2)).1)
    go_enter Tryz.func130, Tryz.ntmps130
    repeat (first | go_values | go_skip | go_guarded | go_step | go_upon)
    go_region
    have q0 := rd_grown0 HR.out
    have q1 := rd_grown1 HR.out
    repeat (first | go_values | go_skip | go_guarded | go_step | go_upon)
    have hG := grown_cell
    have g2_0 : R < w.heap.size := by omega
    refine wp_region_qb (by kernel_rfl) (by kernel_rfl) ?_
    repeat (quiet_step (first | (with_reducible exact ans_quiet (H2.out _))))
    refine wpQuiet_nil ?_
    intro w2 hb2
    clear hG
    obtain ⟨hc2, hf2⟩ := bcell hb2
    have hz2 := hb2.size
    try simp at hz2
    have q2_0 : R < w2.heap.size := by omega
    clear q0 q1
    obtain ⟨c2, c3, fz2⟩ := rd_cells (HR2.out _ hb2)
    repeat (first | go_values | go_skip | go_guarded | go_step | go_upon)
    go_ret
    exact ⟨rfl, rto_set (n := a + 1) (below_rto HR.out (bstep (drew_below _) hb2))⟩
set_option maxRecDepth 100000 in
set_option maxHeartbeats 1600000 in
theorem is_any (R : Nat) (S : ByteArray) (a : Nat) (c : Nat) (r : Bool) (w : World) (h : RD R S a w) (_ : S.size ≤ 140737488355328) (hc : c < 256) (hk : (byteAt (bl S) a == c) = r) :
    Calls Tryz.prog 140 #[.pointer (some ⟨R, 0, none⟩), .int .u8 (c : Int)] w (Ans (.bool r) w) := by
  obtain ⟨c0, c1, fz⟩ := rd_cells h
  have HR := Lib.hid h
  clear h
  by_cases ha : S.size ≤ a
  · rw [byteAt_bge ha] at hk
    obtain rfl : r = false := by rw [← hk]; simp; omega
    clear hk
    have d1 : decide (a < S.size) = false := by simpa using ha
    go_enter Tryz.func140, Tryz.ntmps140
    repeat (first | go_values | go_skip | go_guarded | go_step | go_upon)
    go_region
    repeat (first | go_values | go_skip | go_guarded | go_step | go_upon)
    go_ret
    exact ⟨rfl, (by repeat (first | exact Below.refl _ _ | assumption | refine bal ?_ _ | refine bdr ?_ | refine bdrn ?_ _ | (refine bset ?_ (by first | exact Nat.le_refl _ | (simp; done) | (simp; omega) | omega) _) | refine bstep ?_ (by assumption)))⟩
  · have d1 : decide (a < S.size) = true := by simpa using ha
    have hl : a < S.size := by omega
    rw [byteAt_ba hl] at hk
    have e : ((S[a].toNat : Int) == (c : Int)) = r := by rw [← hk, Bool.eq_iff_iff]; simp; omega
    have HE := Lib.hid e
    clear hk e
    go_enter Tryz.func140, Tryz.ntmps140
    repeat (first | go_values | go_skip | go_guarded | go_step | go_upon)
    go_region
    repeat (first | go_values | go_skip | go_guarded | go_step | go_upon)
    go_ret
    exact ⟨ret_bool HE.out, (by repeat (first | exact Below.refl _ _ | assumption | refine bal ?_ _ | refine bdr ?_ | refine bdrn ?_ _ | (refine bset ?_ (by first | exact Nat.le_refl _ | (simp; done) | (simp; omega) | omega) _) | refine bstep ?_ (by assumption)))⟩
/-- The error at p. -/
def FaultAt (p : Nat) (e : Nat × Nat) (w : World) : Prop := w.heap[p]? = some (.cells #[.int .i64 (e.1 : Int), .int .i64 (e.2 : Int)] 81 (0, 0))
/-- It answers an error of its own. -/
def AnsFault (e : Nat × Nat) (w : World) (v : Value → Value) (ev : Ending) (w' : World) : Prop := ∃ p, ev = .returned (v (.iface 79 (.pointer (some ⟨p, 0, none⟩)))) ∧ FaultAt p e w' ∧ w.heap.size ≤ p
set_option maxRecDepth 100000 in
set_option maxHeartbeats 1600000 in
theorem wrong_any (R : Nat) (S : ByteArray) (a : Nat) (w : World) (h : RD R S a w) (_ : S.size ≤ 140737488355328) :
    Calls Tryz.prog 131 #[.pointer (some ⟨R, 0, none⟩)] w fun e w' => AnsFault (wrongAt (bl S) a) w id e w' ∧ Below w.heap.size w w' := by
  obtain ⟨c0, c1, fz⟩ := rd_cells h
  have HR := Lib.hid h
  clear h
  by_cases ha : S.size ≤ a
  · have hw := Lib.hid (wrongAt_bout ha)
    have d1 : decide (S.size ≤ a) = true := by simpa using ha
    go_enter Tryz.func131, Tryz.ntmps131
    repeat (first | go_values | go_skip | go_guarded | go_step | go_upon)
    go_region
    repeat (first | go_values | go_skip | go_guarded | go_step | go_upon)
    go_ret
    refine ⟨⟨_, rfl, ?_, ?_⟩, (by repeat (first | exact Below.refl _ _ | assumption | refine bal ?_ _ | refine bdr ?_ | refine bdrn ?_ _ | (refine bset ?_ (by first | exact Nat.le_refl _ | (simp; done) | (simp; omega) | omega) _) | refine bstep ?_ (by assumption)))⟩
    · rw [hw.out]; exact heap_alloc_new _ _
    · simp
  · have hw := Lib.hid (wrongAt_bin (Nat.lt_of_not_le ha))
    have d1 : decide (S.size ≤ a) = false := by simpa using ha
    go_enter Tryz.func131, Tryz.ntmps131
    repeat (first | go_values | go_skip | go_guarded | go_step | go_upon)
    go_region
    repeat (first | go_values | go_skip | go_guarded | go_step | go_upon)
    go_ret
    refine ⟨⟨_, rfl, ?_, ?_⟩, (by repeat (first | exact Below.refl _ _ | assumption | refine bal ?_ _ | refine bdr ?_ | refine bdrn ?_ _ | (refine bset ?_ (by first | exact Nat.le_refl _ | (simp; done) | (simp; omega) | omega) _) | refine bstep ?_ (by assumption)))⟩
    · rw [hw.out]; exact heap_alloc_new _ _
    · simp
end Go.Proofs.YtjlcoldnhbkcgaaGreatDoor
