/- The walk of class.reader's method member. | A slice of the call's own: nil, or a block. | The cutter: what it holds; lex.fault, its methods wrong and add. -/
import Derived.Test.YtjlcoldnhbkcgaaGreatDoorG6
import Derived.Test.YtjlcoldnhbkcgaaGreatDoorG4
import Derived.Test.YtjlcoldnhbkcgaaGreatDoorG1
import Derived.Deep.Onto
import Derived.Outline
import Derived.Deep.AppendLies
import Derived.Deep.RegionLaw
namespace Go.Proofs.YtjlcoldnhbkcgaaGreatDoor
open Go.RowKit Go.Sort

theorem rsgn_ok (R : Nat) (S : ByteArray) (a : Nat) (w : World) (h : RD R S a w) (hs : S.size ≤ 140737488355328) {c n : Nat} (hg : sgnAt (bl S) a = .inr (c, n)) :
    Calls Tryz.prog 139 #[.pointer (some ⟨R, 0, none⟩)] w (fun e w' => e = .returned (.tuple #[.int .i64 (c : Int), .nilIface]) ∧ Rto R S n w w') := by
  have := rsgn_any R S a w h hs
  rw [hg] at this
  exact this
theorem rsgn_no (R : Nat) (S : ByteArray) (a : Nat) (w : World) (h : RD R S a w) (hs : S.size ≤ 140737488355328) {er : Nat × Nat} (hg : sgnAt (bl S) a = .inl er) :
    Calls Tryz.prog 139 #[.pointer (some ⟨R, 0, none⟩)] w (fun e w' => AnsFault er w (fun v => .tuple #[.int .i64 0, v]) e w' ∧ ∃ n, Rto R S n w w') := by
  have := rsgn_any R S a w h hs
  rw [hg] at this
  exact this
/-- No bytes. -/
def cls0 : Value := .agg #[.int .u64 0, .int .u64 0, .int .u64 0, .int .u64 0]
/-- A member was read, or what is wrong. -/
def MemP (R : Nat) (S : ByteArray) (w : World) (g : Got (BitVec 256)) (e : Ending) (w' : World) : Prop :=
  match g with
  | .inr (c, n) => e = .returned (.tuple #[.agg #[.int .u64 (wd c 0), .int .u64 (wd c 1), .int .u64 (wd c 2), .int .u64 (wd c 3)], .nilIface]) ∧ Rto R S n w w'
  | .inl er => AnsFault er w (fun v => .tuple #[cls0, v]) e w' ∧ ∃ n, Rto R S n w w'
theorem MemP.ok {R : Nat} {S : ByteArray} {w w' : World} {g : Got (BitVec 256)} {e : Ending} {c : BitVec 256} {n : Nat} (hg : g = .inr (c, n)) (he : e = .returned (.tuple #[.agg #[.int .u64 (wd c 0), .int .u64 (wd c 1), .int .u64 (wd c 2), .int .u64 (wd c 3)], .nilIface])) (h : Rto R S n w w') : MemP R S w g e w' := by
  subst hg; exact ⟨he, h⟩
theorem MemP.no {R : Nat} {S : ByteArray} {w w' : World} {g : Got (BitVec 256)} {er : Nat × Nat} {a p : Nat} {e : Ending} (hg : g = .inl er) (he : e = .returned (.tuple #[cls0, .iface 79 (.pointer (some ⟨p, 0, none⟩))])) (hp : FaultAt p er w') (hl : w.heap.size ≤ p) (h : Rto R S a w w') :
    MemP R S w g e w' := by
  subst hg; exact ⟨⟨p, he, hp, hl⟩, a, h⟩
theorem sgn_inl {s : List UInt8} {a : Nat} {er : Nat × Nat} (h : sgnAt s a = .inl er) : memAt s a = .inl er := by unfold memAt; rw [h]
theorem sgn_hi {s : List UInt8} {a lo n : Nat} (h : sgnAt s a = .inr (lo, n)) : memAt s a = match hiAt s lo n with
    | .inl e => .inl e
    | .inr (hi, m) => if hi < lo then .inl (4, a) else .inr (rng lo hi, m) := by
  unfold memAt
  rw [h]
  rfl
theorem fault_below {p : Nat} {er : Nat × Nat} {w w' : World} (h : FaultAt p er w) (hb : Below w.heap.size w w') : FaultAt p er w' := (hb.block _ (Array.getElem?_eq_some_iff.1 h).1).trans h
theorem rto_alloc {R : Nat} {S : ByteArray} {a : Nat} {w w1 : World} (h : Rto R S a w w1) (o : Obj) : Rto R S a w (w1.alloc o) :=
  rto_trans h (below_rto h.1 ((Below.refl _ _).alloc (Nat.le_refl _) o))
theorem rto_drew {R : Nat} {S : ByteArray} {a : Nat} {w w1 : World} (h : Rto R S a w w1) : Rto R S a w w1.drew := rto_trans h (below_rto h.1 (drew_below _))
theorem rto_setN {R : Nat} {S : ByteArray} {a : Nat} {w w1 : World} (h : Rto R S a w w1) (hR : R < w.heap.size) {p : Addr} (hp : w.heap.size ≤ p.block) (v : Value) : Rto R S a w (w1.setCell p v) :=
  ⟨(heap_setCell_other w1 p R v (fun e => by omega)).trans h.1, h.2.os, h.2.tape, h.2.output, by simpa using h.2.size, fun k hk hn => (heap_setCell_other w1 p k v (fun e => by omega)).trans (h.2.block k hk hn)⟩
theorem rto_refl {R : Nat} {S : ByteArray} {a : Nat} {w : World} (h : RD R S a w) : Rto R S a w w := ⟨h, grefl _ _⟩
theorem rto_more {R : Nat} {S : ByteArray} {a : Nat} {w w1 : World} {o : Obj} (_ : R < w.heap.size) (h : Rto R S a (w.alloc o) w1) : Rto R S a w w1 :=
  ⟨h.1, ⟨rfl, rfl, rfl, by simp, fun k hk _ => RowKit.Below.heap_alloc w o k hk⟩ |> fun (g : w.grownBy (w.alloc o) (some R)) => g.trans h.2⟩
/-- What the call itself made is as it was. -/
theorem rto_new {R : Nat} {S : ByteArray} {a : Nat} {w w1 : World} {cs : Array Value} {T : TypeId} (hR : R < w.heap.size) (h : Rto R S a (w.alloc (.cells cs T)) w1) : w1.heap[w.heap.size]? = some (.cells cs T (0, 0)) :=
  (h.2.block _ (by simp) (fun e => by injection e with e; omega)).trans (heap_alloc_new _ _)
theorem fault_new {p : Nat} {er : Nat × Nat} {w : World} (h : w.heap.size = p) : FaultAt p er (w.alloc (.cells #[.int .i64 (er.1 : Int), .int .i64 (er.2 : Int)] 81)) := by
  subst h; exact heap_alloc_new _ _
theorem fault_set {p : Nat} {er : Nat × Nat} {w : World} (h : FaultAt p er w) {q : Addr} (hq : q.block ≠ p) (v : Value) : FaultAt p er (w.setCell q v) := (heap_setCell_other w q p v (fun e => hq e.symm)).trans h
set_option maxRecDepth 100000 in
set_option maxHeartbeats 3200000 in
theorem mem_1 (R : Nat) (S : ByteArray) (a : Nat) (w : World) (h : RD R S a w) (hs : S.size ≤ 140737488355328) {er : Nat × Nat} (hg : sgnAt (bl S) a = .inl er) :
    Calls Tryz.prog 132 #[.pointer (some ⟨R, 0, none⟩)] w (MemP R S w (memAt (bl S) a)) := by
  obtain ⟨c0, c1, fz⟩ := rd_cells h
  have hR0 := rd_lt h
  have HG := Lib.hid hg
  have HA := Lib.hid (rd_below h ((Below.refl _ _).alloc (Nat.le_refl _) (.cells #[.int .u64 0, .int .u64 0, .int .u64 0, .int .u64 0] 37)))
  clear h hg
  go_enter Tryz.func132, Tryz.ntmps132
  repeat (first | go_values | go_skip | go_guarded | go_step | go_upon)
  refine (rsgn_no R S a _ HA.out hs HG.out).mono ?_
  rintro e w1 ⟨⟨p, rfl, hp, hl⟩, n, t1⟩
  obtain ⟨cB, fB, zB⟩ := cells_at (rto_new hR0 t1)
  dsimp only
  repeat (first | go_values | go_skip | go_guarded | go_step | go_upon)
  refine bodyPost_ret (v := .tuple #[cls0, .iface 79 (.pointer (some ⟨p, 0, none⟩))]) (by simp [cls0, results, Tryz.results132, go_sem, cB]) rfl ?_
  have hl2 : w.heap.size < p := by simp at hl; omega
  have t2 := rto_more hR0 t1
  exact MemP.no (sgn_inl HG.out) rfl (fault_set (fault_set (fault_set (fault_set hp (by simp; omega) _) (by simp; omega) _) (by simp; omega) _) (by simp; omega) _) (Nat.le_of_lt hl2) (rto_setN (rto_setN (rto_setN (rto_setN t2 hR0 (Nat.le_refl _) _) hR0 (Nat.le_refl _) _) hR0 (Nat.le_refl _) _) hR0 (Nat.le_refl _) _)
theorem hi_no {s : List UInt8} {lo n : Nat} (h : (byteAt s n == 45) = false) : hiAt s lo n = .inr (lo, n) := by rw [hiAt, if_neg (by simpa using h)]
theorem hi_dash {s : List UInt8} {lo n : Nat} (h : (byteAt s n == 45) = true) : hiAt s lo n = sgnAt s (n + 1) := by rw [hiAt, if_pos (by simpa using h)]
theorem span_nat (lo hi : Nat) (w : World) (h0 : lo ≤ hi) (h1 : hi ≤ 255) : Calls Tryz.prog 141 #[.int .i64 (lo : Int), .int .i64 (hi : Int)] w (Ans (.agg #[.int .u64 (wd (rng lo hi) 0), .int .u64 (wd (rng lo hi) 1), .int .u64 (wd (rng lo hi) 2), .int .u64 (wd (rng lo hi) 3)]) w) := span_any lo hi w h0 h1
set_option maxRecDepth 100000 in
set_option maxHeartbeats 3200000 in
theorem mem_2 (R : Nat) (S : ByteArray) (a : Nat) (w : World) (h : RD R S a w) (hs : S.size ≤ 140737488355328) {lo n : Nat} (hg : sgnAt (bl S) a = .inr (lo, n)) (hd : (byteAt (bl S) n == 45) = false) :
    Calls Tryz.prog 132 #[.pointer (some ⟨R, 0, none⟩)] w (MemP R S w (memAt (bl S) a)) := by
  obtain ⟨c0, c1, fz⟩ := rd_cells h
  have hR0 := rd_lt h
  have hbd := sgnAt_bd hg
  have HM := Lib.hid (show memAt (bl S) a = .inr (rng lo lo, n) by rw [sgn_hi hg, hi_no hd]; simp)
  have HG := Lib.hid hg
  have HD := Lib.hid hd
  have HA := Lib.hid (rd_below h ((Below.refl _ _).alloc (Nat.le_refl _) (.cells #[.int .u64 0, .int .u64 0, .int .u64 0, .int .u64 0] 37)))
  clear h hg hd
  go_enter Tryz.func132, Tryz.ntmps132
  repeat (first | go_values | go_skip | go_guarded | go_step | go_upon)
  refine (rsgn_ok R S a _ HA.out hs HG.out).mono ?_
  rintro e w1 ⟨rfl, t1⟩
  obtain ⟨cB, fB, zB⟩ := cells_at (rto_new hR0 t1)
  dsimp only
  repeat (first | go_values | go_skip | go_guarded | go_step | go_upon)
  refine (is_any R S n 45 false _ t1.1 hs (by decide) HD.out).mono ?_
  rintro e w2 ⟨rfl, hb2⟩
  have t2 := rto_trans t1 (below_rto t1.1 hb2)
  obtain ⟨cB2, fB2, zB2⟩ := cells_at (rto_new hR0 t2)
  obtain ⟨r0, r1, fr⟩ := rd_cells t2.1
  dsimp only
  repeat (first | go_values | go_skip | go_guarded | go_step | go_upon)
  refine (span_nat lo lo _ (Nat.le_refl _) (by omega)).mono ?_
  rintro e w3 ⟨rfl, hb3⟩
  have t3 := rto_trans t2 (below_rto t2.1 hb3)
  obtain ⟨cB3, fB3, zB3⟩ := cells_at (rto_new hR0 t3)
  dsimp only
  repeat (first | go_values | go_skip | go_guarded | go_step | go_upon)
  refine bodyPost_ret (v := .tuple #[.agg #[.int .u64 (wd (rng lo lo) 0), .int .u64 (wd (rng lo lo) 1), .int .u64 (wd (rng lo lo) 2), .int .u64 (wd (rng lo lo) 3)], .nilIface]) (by simp [results, Tryz.results132, go_sem, cB3]) rfl ?_
  exact MemP.ok HM.out rfl (rto_setN (rto_setN (rto_setN (rto_setN (rto_more hR0 t3) hR0 (Nat.le_refl _) _) hR0 (Nat.le_refl _) _) hR0 (Nat.le_refl _) _) hR0 (Nat.le_refl _) _)
set_option maxRecDepth 100000 in
set_option maxHeartbeats 3200000 in
theorem mem_3 (R : Nat) (S : ByteArray) (a : Nat) (w : World) (h : RD R S a w) (hs : S.size ≤ 140737488355328) {lo n : Nat} (hg : sgnAt (bl S) a = .inr (lo, n)) (hd : (byteAt (bl S) n == 45) = true) {er : Nat × Nat} (hh : sgnAt (bl S) (n + 1) = .inl er) :
    Calls Tryz.prog 132 #[.pointer (some ⟨R, 0, none⟩)] w (MemP R S w (memAt (bl S) a)) := by
  obtain ⟨c0, c1, fz⟩ := rd_cells h
  have hR0 := rd_lt h
  have hbd := sgnAt_bd hg
  have hls : n ≤ S.size := by have := bl_length S; omega
  have HM := Lib.hid (show memAt (bl S) a = .inl er by rw [sgn_hi hg, hi_dash hd, hh])
  have HG := Lib.hid hg
  have HD := Lib.hid hd
  have HH := Lib.hid hh
  have HA := Lib.hid (rd_below h ((Below.refl _ _).alloc (Nat.le_refl _) (.cells #[.int .u64 0, .int .u64 0, .int .u64 0, .int .u64 0] 37)))
  clear h hg hd hh
  go_enter Tryz.func132, Tryz.ntmps132
  repeat (first | go_values | go_skip | go_guarded | go_step | go_upon)
  refine (rsgn_ok R S a _ HA.out hs HG.out).mono ?_
  rintro e w1 ⟨rfl, t1⟩
  obtain ⟨cB, fB, zB⟩ := cells_at (rto_new hR0 t1)
  dsimp only
  repeat (first | go_values | go_skip | go_guarded | go_step | go_upon)
  refine (is_any R S n 45 true _ t1.1 hs (by decide) HD.out).mono ?_
  rintro e w2 ⟨rfl, hb2⟩
  have t2 := rto_trans t1 (below_rto t1.1 hb2)
  obtain ⟨cB2, fB2, zB2⟩ := cells_at (rto_new hR0 t2)
  obtain ⟨r0, r1, fr⟩ := rd_cells t2.1
  dsimp only
  repeat (first | go_values | go_skip | go_guarded | go_step | go_upon)
  have t3 := rto_set (n := n + 1) t2
  refine (rsgn_no R S (n + 1) _ t3.1 hs HH.out).mono ?_
  rintro e w4 ⟨⟨p, rfl, hp, hl⟩, n4, u4⟩
  have t4 := rto_trans t3 u4
  have hl2 : w.heap.size < p := by have := t3.2.size; simp at this hl; omega
  obtain ⟨cB4, fB4, zB4⟩ := cells_at (rto_new hR0 t4)
  dsimp only
  repeat (first | go_values | go_skip | go_guarded | go_step | go_upon)
  refine bodyPost_ret (v := .tuple #[cls0, .iface 79 (.pointer (some ⟨p, 0, none⟩))]) (by simp [cls0, results, Tryz.results132, go_sem, cB4]) rfl ?_
  exact MemP.no HM.out rfl (fault_set (fault_set (fault_set (fault_set hp (by simp; omega) _) (by simp; omega) _) (by simp; omega) _) (by simp; omega) _) (Nat.le_of_lt hl2) (rto_setN (rto_setN (rto_setN (rto_setN (rto_more hR0 t4) hR0 (Nat.le_refl _) _) hR0 (Nat.le_refl _) _) hR0 (Nat.le_refl _) _) hR0 (Nat.le_refl _) _)
set_option maxRecDepth 100000 in
set_option maxHeartbeats 3200000 in
theorem mem_4 (R : Nat) (S : ByteArray) (a : Nat) (w : World) (h : RD R S a w) (hs : S.size ≤ 140737488355328) {lo n hi m : Nat} (hg : sgnAt (bl S) a = .inr (lo, n)) (hd : (byteAt (bl S) n == 45) = true) (hh : sgnAt (bl S) (n + 1) = .inr (hi, m)) (hlt : hi < lo) :
    Calls Tryz.prog 132 #[.pointer (some ⟨R, 0, none⟩)] w (MemP R S w (memAt (bl S) a)) := by
  obtain ⟨c0, c1, fz⟩ := rd_cells h
  have hR0 := rd_lt h
  have hbd := sgnAt_bd hg
  have hbd2 := sgnAt_bd hh
  have hls : n ≤ S.size := by have := bl_length S; omega
  have HM := Lib.hid (show memAt (bl S) a = .inl (4, a) by rw [sgn_hi hg, hi_dash hd, hh]; simp only; rw [if_pos hlt])
  have HG := Lib.hid hg
  have HD := Lib.hid hd
  have HH := Lib.hid hh
  have d5 : decide (hi < lo) = true := by simpa using hlt
  have HA := Lib.hid (rd_below h ((Below.refl _ _).alloc (Nat.le_refl _) (.cells #[.int .u64 0, .int .u64 0, .int .u64 0, .int .u64 0] 37)))
  clear h hg hd hh
  go_enter Tryz.func132, Tryz.ntmps132
  repeat (first | go_values | go_skip | go_guarded | go_step | go_upon)
  refine (rsgn_ok R S a _ HA.out hs HG.out).mono ?_
  rintro e w1 ⟨rfl, t1⟩
  obtain ⟨cB, fB, zB⟩ := cells_at (rto_new hR0 t1)
  dsimp only
  repeat (first | go_values | go_skip | go_guarded | go_step | go_upon)
  refine (is_any R S n 45 true _ t1.1 hs (by decide) HD.out).mono ?_
  rintro e w2 ⟨rfl, hb2⟩
  have t2 := rto_trans t1 (below_rto t1.1 hb2)
  obtain ⟨cB2, fB2, zB2⟩ := cells_at (rto_new hR0 t2)
  obtain ⟨r0, r1, fr⟩ := rd_cells t2.1
  dsimp only
  repeat (first | go_values | go_skip | go_guarded | go_step | go_upon)
  have t3 := rto_set (n := n + 1) t2
  refine (rsgn_ok R S (n + 1) _ t3.1 hs HH.out).mono ?_
  rintro e w4 ⟨rfl, u4⟩
  have t4 := rto_trans t3 u4
  have hz4 := u4.2.size
  simp at hz4
  obtain ⟨cB4, fB4, zB4⟩ := cells_at (rto_new hR0 t4)
  dsimp only
  repeat (first | go_values | go_skip | go_guarded | go_step | go_upon)
  refine bodyPost_ret (v := .tuple #[cls0, .iface 79 (.pointer (some ⟨w4.heap.size, 0, none⟩))]) (by simp [cls0, results, Tryz.results132, go_sem, cB4, zB4]) rfl ?_
  have hz : w.heap.size ≤ w4.heap.size := (rto_more hR0 t4).2.size
  exact MemP.no HM.out rfl (fault_new (er := (4, a)) (by simp)) hz (rto_alloc (rto_setN (rto_setN (rto_setN (rto_setN (rto_more hR0 t4) hR0 (Nat.le_refl _) _) hR0 (Nat.le_refl _) _) hR0 (Nat.le_refl _) _) hR0 (Nat.le_refl _) _) _)
set_option maxRecDepth 100000 in
set_option maxHeartbeats 3200000 in
theorem mem_5 (R : Nat) (S : ByteArray) (a : Nat) (w : World) (h : RD R S a w) (hs : S.size ≤ 140737488355328) {lo n hi m : Nat} (hg : sgnAt (bl S) a = .inr (lo, n)) (hd : (byteAt (bl S) n == 45) = true) (hh : sgnAt (bl S) (n + 1) = .inr (hi, m)) (hlt : lo ≤ hi) :
    Calls Tryz.prog 132 #[.pointer (some ⟨R, 0, none⟩)] w (MemP R S w (memAt (bl S) a)) := by
  obtain ⟨c0, c1, fz⟩ := rd_cells h
  have hR0 := rd_lt h
  have hbd := sgnAt_bd hg
  have hbd2 := sgnAt_bd hh
  have hls : n ≤ S.size := by have := bl_length S; omega
  have HM := Lib.hid (show memAt (bl S) a = .inr (rng lo hi, m) by rw [sgn_hi hg, hi_dash hd, hh]; simp only; rw [if_neg (by omega)])
  have HG := Lib.hid hg
  have HD := Lib.hid hd
  have HH := Lib.hid hh
  have d5 : decide (hi < lo) = false := by simpa using hlt
  have HA := Lib.hid (rd_below h ((Below.refl _ _).alloc (Nat.le_refl _) (.cells #[.int .u64 0, .int .u64 0, .int .u64 0, .int .u64 0] 37)))
  clear h hg hd hh
  go_enter Tryz.func132, Tryz.ntmps132
  repeat (first | go_values | go_skip | go_guarded | go_step | go_upon)
  refine (rsgn_ok R S a _ HA.out hs HG.out).mono ?_
  rintro e w1 ⟨rfl, t1⟩
  obtain ⟨cB, fB, zB⟩ := cells_at (rto_new hR0 t1)
  dsimp only
  repeat (first | go_values | go_skip | go_guarded | go_step | go_upon)
  refine (is_any R S n 45 true _ t1.1 hs (by decide) HD.out).mono ?_
  rintro e w2 ⟨rfl, hb2⟩
  have t2 := rto_trans t1 (below_rto t1.1 hb2)
  obtain ⟨cB2, fB2, zB2⟩ := cells_at (rto_new hR0 t2)
  obtain ⟨r0, r1, fr⟩ := rd_cells t2.1
  dsimp only
  repeat (first | go_values | go_skip | go_guarded | go_step | go_upon)
  have t3 := rto_set (n := n + 1) t2
  refine (rsgn_ok R S (n + 1) _ t3.1 hs HH.out).mono ?_
  rintro e w4 ⟨rfl, u4⟩
  have t4 := rto_trans t3 u4
  have hz4 := u4.2.size
  simp at hz4
  obtain ⟨cB4, fB4, zB4⟩ := cells_at (rto_new hR0 t4)
  dsimp only
  repeat (first | go_values | go_skip | go_guarded | go_step | go_upon)
  refine (span_nat lo hi _ hlt (by omega)).mono ?_
  rintro e w5 ⟨rfl, hb5⟩
  have t5 := rto_trans t4 (below_rto t4.1 hb5)
  obtain ⟨cB5, fB5, zB5⟩ := cells_at (rto_new hR0 t5)
  dsimp only
  repeat (first | go_values | go_skip | go_guarded | go_step | go_upon)
  refine bodyPost_ret (v := .tuple #[.agg #[.int .u64 (wd (rng lo hi) 0), .int .u64 (wd (rng lo hi) 1), .int .u64 (wd (rng lo hi) 2), .int .u64 (wd (rng lo hi) 3)], .nilIface]) (by simp [results, Tryz.results132, go_sem, cB5]) rfl ?_
  exact MemP.ok HM.out rfl (rto_setN (rto_setN (rto_setN (rto_setN (rto_more hR0 t5) hR0 (Nat.le_refl _) _) hR0 (Nat.le_refl _) _) hR0 (Nat.le_refl _) _) hR0 (Nat.le_refl _) _)
theorem mem_any (R : Nat) (S : ByteArray) (a : Nat) (w : World) (h : RD R S a w) (hs : S.size ≤ 140737488355328) :
    Calls Tryz.prog 132 #[.pointer (some ⟨R, 0, none⟩)] w (MemP R S w (memAt (bl S) a)) := by
  cases hg : sgnAt (bl S) a with
  | inl er => exact mem_1 R S a w h hs hg
  | inr q =>
    obtain ⟨lo, n⟩ := q
    cases hd : (byteAt (bl S) n == 45)
    · exact mem_2 R S a w h hs hg hd
    · cases hh : sgnAt (bl S) (n + 1) with
      | inl er => exact mem_3 R S a w h hs hg hd hh
      | inr q =>
        obtain ⟨hi, m⟩ := q
        rcases Nat.lt_or_ge hi lo with hlt | hlt
        · exact mem_4 R S a w h hs hg hd hh hlt
        · exact mem_5 R S a w h hs hg hd hh hlt
end Go.Proofs.YtjlcoldnhbkcgaaGreatDoor
namespace Go.Proofs.YtjlcoldnhbkcgaaGreatDoor
open Go.RowKit Go.Sort

theorem owns_form2 {w : World} {base : Nat} {e : TypeId} {size : Nat} {v : Value} {n : Nat} {xs : List Value} (h : w.ownsRow base e size v n xs) : (n = 0 ∧ v = .slice none 0 0) ∨ (∃ g cap, v = .slice (some ⟨g, 0, none⟩) n cap) := by
  rcases owns_form h with h | ⟨cap, h⟩
  · exact .inl h
  · exact .inr ⟨_, cap, h⟩
end Go.Proofs.YtjlcoldnhbkcgaaGreatDoor
namespace Go.Proofs.YtjlcoldnhbkcgaaGreatDoor
open Go.RowKit Go.Sort

/-- A token's cells, a token. -/
def tokC (t : Tok) : List Value := [.int .i64 (t.kind : Int), .string (mkS t.text), .int .u64 (wd t.cls 0), .int .u64 (wd t.cls 1), .int .u64 (wd t.cls 2), .int .u64 (wd t.cls 3), .int .i64 (t.pos : Int)]
def tokCells : List Tok → List Value
  | [] => []
  | t :: l => tokC t ++ tokCells l
theorem tokCells_append (a b : List Tok) : tokCells (a ++ b) = tokCells a ++ tokCells b := by
  induction a with
  | nil => rfl
  | cons t a ih => simp [tokCells, ih]
/-- A cutter at C over S, at a place, with these tokens. -/
def CU (C : Nat) (S : ByteArray) (a : Nat) (l : List Tok) (w : World) : Prop :=
  ∃ v, w.heap[C]? = some (.cells #[.string S, .int .i64 (a : Int), v] 113 (0, 0)) ∧ w.ownsRow (C + 1) 96 7 v l.length (tokCells l)
theorem CU.lt {C : Nat} {S : ByteArray} {a : Nat} {l : List Tok} {w : World} (h : CU C S a l w) : C < w.heap.size := by
  obtain ⟨v, h, _⟩ := h; exact (Array.getElem?_eq_some_iff.1 h).1
theorem CU.below {C : Nat} {S : ByteArray} {a : Nat} {l : List Tok} {w w' : World} (h : CU C S a l w) (hb : Below w.heap.size w w') : CU C S a l w' := by
  obtain ⟨v, h1, h2⟩ := h
  exact ⟨v, (hb.block _ (Array.getElem?_eq_some_iff.1 h1).1).trans h1, owns_below h2 hb⟩
theorem CU.cells {C : Nat} {S : ByteArray} {a : Nat} {l : List Tok} {w : World} (h : CU C S a l w) : w.cell? ⟨C, 0, none⟩ = some (.string S) ∧ w.cell? ⟨C, 1, none⟩ = some (.int .i64 (a : Int)) := by
  obtain ⟨v, h1, _⟩ := h
  exact ⟨(cells_at h1).1 0, (cells_at h1).1 1⟩
theorem info_tok : (Tryz.prog.info? 96).map (fun i => (i.zero, i.size, i.bytes)) = some (some (.agg #[.int .i64 0, .string ⟨#[]⟩, .int .u64 0, .int .u64 0, .int .u64 0, .int .u64 0, .int .i64 0]), 7, 64) := by kernel_rfl
theorem cell_7_new (w : World) (a b c d e f g : Value) (t : TypeId) : ∀ j u, [a, b, c, d, e, f, g][j]? = some u → (w.alloc (.cells #[a, b, c, d, e, f, g] t)).cell? ((⟨w.heap.size, 0, none⟩ : Addr).add j) = some u := by
  intro j u hj
  match j, hj with
  | 0, hj => simp at hj; subst hj; simp [Addr.add]
  | 1, hj => simp at hj; subst hj; simp [Addr.add]
  | 2, hj => simp at hj; subst hj; simp [Addr.add]
  | 3, hj => simp at hj; subst hj; simp [Addr.add]
  | 4, hj => simp at hj; subst hj; simp [Addr.add]
  | 5, hj => simp at hj; subst hj; simp [Addr.add]
  | 6, hj => simp at hj; subst hj; simp [Addr.add]
  | (j + 7), hj => simp at hj
theorem new_two (w : World) (o p : Obj) : ((w.alloc o).alloc p).heap[w.heap.size + 1]? = some p := by
  have := heap_alloc_new (w.alloc o) p
  simpa using this
theorem add_keep {w w1 : World} {o p x : Obj} {C : Nat} {b : Option Nat} (h : w.heap[C]? = some x) (hC : C < w.heap.size) (hb : b ≠ some C) (hg : ((w.alloc o).alloc p).drew.grownBy w1 b) : w1.heap[C]? = some x := by
  rw [hg.block C (by simp; omega) (fun e => hb e.symm)]
  show ((w.alloc o).alloc p).heap[C]? = some x
  rw [RowKit.Below.heap_alloc _ _ _ (by simp; omega), RowKit.Below.heap_alloc _ _ _ hC, h]
theorem gsetk (w : World) (a : Addr) (v : Value) : w.grownBy (w.setCell a v) (some a.block) := ⟨rfl, rfl, rfl, by simp, fun k _ hk => heap_setCell_other w a k v (fun e => hk (by rw [e]))⟩
set_option maxHeartbeats 400000 in
theorem fault_any (c x : Int) (er : Nat × Nat) (w : World) (hc : c = er.1) (hx : x = er.2) :
    Calls Tryz.prog 56 #[.int .i64 c, .int .i64 x] w fun e w' => AnsFault er w id e w' ∧ Below w.heap.size w w' := by
  subst hc hx
  go_enter Tryz.func56, Tryz.ntmps56
  repeat (first | go_values | go_skip | go_guarded | go_step | go_upon)
  go_ret
  exact ⟨⟨_, rfl, heap_alloc_new _ _, Nat.le_refl _⟩, (by repeat (first | exact Below.refl _ _ | assumption | refine bal ?_ _ | refine bdr ?_ | refine bdrn ?_ _ | (refine bset ?_ (by first | exact Nat.le_refl _ | (simp; done) | (simp; omega) | omega) _) | refine bstep ?_ (by assumption)))⟩
set_option maxRecDepth 100000 in
set_option maxHeartbeats 800000 in
theorem lwrong_any (C : Nat) (S : ByteArray) (a : Nat) (l : List Tok) (x : Int) (b : Nat) (w : World) (h : CU C S a l w) (hx : x = b) (_ : S.size ≤ 140737488355328) :
    Calls Tryz.prog 114 #[.pointer (some ⟨C, 0, none⟩), .int .i64 x] w fun e w' => AnsFault (wrongAt (bl S) b) w id e w' ∧ Below w.heap.size w w' := by
  subst hx
  obtain ⟨c0, c1⟩ := h.cells
  clear h
  by_cases ha : S.size ≤ b
  · have hw := Lib.hid (wrongAt_bout ha)
    have d1 : decide (S.size ≤ b) = true := by simpa using ha
    go_enter Tryz.func114, Tryz.ntmps114
    repeat (first | go_values | go_skip | go_guarded | go_step | go_upon)
    refine (fault_any _ _ (3, S.size) _ rfl rfl).mono ?_
    rintro e w1 ⟨⟨p, rfl, hp, hl⟩, hb1⟩
    dsimp only [id]
    repeat (first | go_values | go_skip | go_guarded | go_step | go_upon)
    go_ret
    rw [hw.out]
    exact ⟨⟨p, rfl, hp, hl⟩, hb1⟩
  · have hw := Lib.hid (wrongAt_bin (Nat.lt_of_not_le ha))
    have d1 : decide (S.size ≤ b) = false := by simpa using ha
    go_enter Tryz.func114, Tryz.ntmps114
    repeat (first | go_values | go_skip | go_guarded | go_step | go_upon)
    refine (fault_any _ _ (4, b) _ rfl rfl).mono ?_
    rintro e w1 ⟨⟨p, rfl, hp, hl⟩, hb1⟩
    dsimp only [id]
    repeat (first | go_values | go_skip | go_guarded | go_step | go_upon)
    go_ret
    rw [hw.out]
    exact ⟨⟨p, rfl, hp, hl⟩, hb1⟩
set_option maxRecDepth 100000 in
set_option maxHeartbeats 1600000 in
theorem add_any (C : Nat) (S : ByteArray) (a : Nat) (l : List Tok) (t : Tok) (p0 x : Int) (n : Nat) (w : World) (h : CU C S a l w) (hx : x = n) (ht : t.pos = a) (hl : l.length ≤ 100000) :
    Calls Tryz.prog 59 #[.pointer (some ⟨C, 0, none⟩), .agg #[.int .i64 (t.kind : Int), .string (mkS t.text), .int .u64 (wd t.cls 0), .int .u64 (wd t.cls 1), .int .u64 (wd t.cls 2), .int .u64 (wd t.cls 3), .int .i64 p0], .int .i64 x] w fun e w' => e = .returned (.tuple #[]) ∧ CU C S n (l ++ [t]) w' ∧ Below C w w' := by
  subst hx
  obtain ⟨i0, iH, iz, is, ib⟩ := info_parts info_tok
  have hC := h.lt
  obtain ⟨v, h1, hown⟩ := h
  obtain ⟨cC, fC, zC⟩ := cells_at h1
  go_enter Tryz.func59, Tryz.ntmps59
  repeat (first | go_values | go_skip | go_guarded | go_step | go_upon)
  have HO := Lib.hid hown
  have hCne : v.ownBlock ≠ some C := fun e => by have := (hown.lt C e).1; omega
  have hbox := heap_alloc_new w (.cells #[.int .i64 (t.kind : Int), .string (mkS t.text), .int .u64 (wd t.cls 0), .int .u64 (wd t.cls 1), .int .u64 (wd t.cls 2), .int .u64 (wd t.cls 3), .int .i64 (a : Int)] 96)
  have HN := Lib.hid (fun (o : Obj) => new_two w o (.cells #[.int .i64 (t.kind : Int), .string (mkS t.text), .int .u64 (wd t.cls 0), .int .u64 (wd t.cls 1), .int .u64 (wd t.cls 2), .int .u64 (wd t.cls 3), .int .i64 (a : Int)] 96))
  clear hown
  go_region_law (refine step_append_lies _ (by rfl) _ _ _ (by rfl) (C + 1) 96 i0 _ 7 64 Tryz.underlying89 iH iz is ib rfl (by omega) v l.length (tokCells l) (by rfl) (((HO.out.alloc _).alloc _).drew) ⟨w.heap.size + 1, 0, none⟩ 1 1 [.int .i64 (t.kind : Int), .string (mkS t.text), .int .u64 (wd t.cls 0), .int .u64 (wd t.cls 1), .int .u64 (wd t.cls 2), .int .u64 (wd t.cls 3), .int .i64 (a : Int)] (by rfl) (by rfl) (World.news_of_block (cs := #[.int .i64 (t.kind : Int), .string (mkS t.text), .int .u64 (wd t.cls 0), .int .u64 (wd t.cls 1), .int .u64 (wd t.cls 2), .int .u64 (wd t.cls 3), .int .i64 (a : Int)]) (t := 96) (fr := (0, 0)) (HN.out _)) (by simp [Value.oneCell']) (by omega) (by unfold maxLen; omega) (by omega) (by simp; omega) (w.heap.size + 1 + 1) (by simp) ?_; intro gg cap w1 hown1 hgrow hat hlt; obtain ⟨cD, fD, zD⟩ := cells_at (add_keep h1 hC hCne hgrow))
  all_goals
    repeat (first | go_values | go_skip | go_guarded | go_step | go_upon)
    go_end0
    have hgC : C + 1 ≤ gg := (hown1.lt gg rfl).1
    have g1 := gsetk w1 ⟨C, 2, none⟩ (.slice (some ⟨gg, 0, none⟩) (l.length + 1) cap)
    have g2 := g1.trans (gsetk (w1.setCell ⟨C, 2, none⟩ (.slice (some ⟨gg, 0, none⟩) (l.length + 1) cap)) ⟨C, 1, none⟩ (.int .i64 (n : Int)))
    refine ⟨rfl, ⟨_, heap_setCell_same _ C 1 _ _ _ (heap_setCell_same _ C 2 _ _ _ (add_keep h1 hC hCne hgrow)), ?_⟩, ?_⟩
    · have := hown1.kept g2 (by simp [Value.ownBlock]; omega)
      rw [tokCells_append, List.length_append]
      simpa [tokCells, tokC, ht] using this
    · exact (((((Below.refl C w).alloc (by omega) _).alloc (by simp; omega) _).drew.grown hgrow (by simp; omega) (fun k hk => by have := (HO.out.lt k hk).1; omega)).setCell (p := ⟨C, 2, none⟩) (Nat.le_refl _) _).setCell (p := ⟨C, 1, none⟩) (Nat.le_refl _) _
end Go.Proofs.YtjlcoldnhbkcgaaGreatDoor
