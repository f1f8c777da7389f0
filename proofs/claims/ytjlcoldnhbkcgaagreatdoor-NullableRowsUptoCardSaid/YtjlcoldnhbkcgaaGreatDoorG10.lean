/- The walk of class.Parse. -/
import Derived.Test.YtjlcoldnhbkcgaaGreatDoorG7
import Derived.Outline
import Derived.Deep.RegionHeld3
namespace Go.Proofs.YtjlcoldnhbkcgaaGreatDoor
open Go.RowKit Go.Sort

theorem rmem_ok (R : Nat) (S : ByteArray) (a : Nat) (w : World) (h : RD R S a w) (hs : S.size ≤ 140737488355328) {c : BitVec 256} {n : Nat} (hg : memAt (bl S) a = .inr (c, n)) :
    Calls Tryz.prog 132 #[.pointer (some ⟨R, 0, none⟩)] w (fun e w' => e = .returned (.tuple #[.agg #[.int .u64 (wd c 0), .int .u64 (wd c 1), .int .u64 (wd c 2), .int .u64 (wd c 3)], .nilIface]) ∧ Rto R S n w w') := by
  have := mem_any R S a w h hs
  rw [hg] at this
  exact this
theorem rmem_no (R : Nat) (S : ByteArray) (a : Nat) (w : World) (h : RD R S a w) (hs : S.size ≤ 140737488355328) {er : Nat × Nat} (hg : memAt (bl S) a = .inl er) :
    Calls Tryz.prog 132 #[.pointer (some ⟨R, 0, none⟩)] w (fun e w' => AnsFault er w (fun v => .tuple #[cls0, v]) e w' ∧ ∃ n, Rto R S n w w') := by
  have := mem_any R S a w h hs
  rw [hg] at this
  exact this
/-- A class was read, or what is wrong. -/
def ParP (w : World) (g : Got (BitVec 256)) (e : Ending) (w' : World) : Prop :=
  match g with
  | .inr (c, n) => e = .returned (.tuple #[.agg #[.int .u64 (wd c 0), .int .u64 (wd c 1), .int .u64 (wd c 2), .int .u64 (wd c 3)], .int .i64 (n : Int), .nilIface]) ∧ Below w.heap.size w w'
  | .inl er => AnsFault er w (fun v => .tuple #[cls0, .int .i64 0, v]) e w' ∧ Below w.heap.size w w'
theorem ParP.ok {w w' : World} {g : Got (BitVec 256)} {e : Ending} {c : BitVec 256} {n : Nat} (hg : g = .inr (c, n)) (he : e = .returned (.tuple #[.agg #[.int .u64 (wd c 0), .int .u64 (wd c 1), .int .u64 (wd c 2), .int .u64 (wd c 3)], .int .i64 (n : Int), .nilIface])) (h : Below w.heap.size w w') : ParP w g e w' := by
  subst hg; exact ⟨he, h⟩
theorem ParP.no {w w' : World} {g : Got (BitVec 256)} {er : Nat × Nat} {p : Nat} {e : Ending} (hg : g = .inl er) (he : e = .returned (.tuple #[cls0, .int .i64 0, .iface 79 (.pointer (some ⟨p, 0, none⟩))])) (hp : FaultAt p er w') (hl : w.heap.size ≤ p) (h : Below w.heap.size w w') :
    ParP w g e w' := by
  subst hg; exact ⟨⟨p, he, hp, hl⟩, h⟩
theorem rd_alloc {S : ByteArray} (w : World) : RD w.heap.size S 0 (w.alloc (.cells #[.string S, .int .i64 0] 206)) := heap_alloc_new _ _
theorem rd_alloc3 {S : ByteArray} (w : World) (o1 o2 : Obj) : RD (w.heap.size + 1 + 1) S 0 (((w.alloc o1).alloc o2).alloc (.cells #[.string S, .int .i64 0] 206)) := by
  have := rd_alloc (S := S) ((w.alloc o1).alloc o2)
  simpa using this
theorem set4p {w : World} {B : Nat} {a b c d a' b' c' d' : Value} {t : TypeId} (h : w.heap[B]? = some (.cells #[a, b, c, d] t (0, 0))) :
    ((((w.setCell ⟨B, 0, none⟩ a').setCell ⟨B, 1, none⟩ b').setCell ⟨B, 2, none⟩ c').setCell ⟨B, 3, none⟩ d').heap[B]? = some (.cells #[a', b', c', d'] t (0, 0)) :=
  heap_setCell_same _ B 3 _ _ _ (heap_setCell_same _ B 2 _ _ _ (heap_setCell_same _ B 1 _ _ _ (heap_setCell_same _ B 0 _ _ _ h)))
/-- The three blocks of the call: what is answered, the class so far, the reader. -/
structure Z (S : ByteArray) (c : BitVec 256) (a : Nat) (w w' : World) : Prop where
  res : w'.heap[w.heap.size]? = some (.cells #[.int .u64 0, .int .u64 0, .int .u64 0, .int .u64 0] 37 (0, 0))
  cls : w'.heap[w.heap.size + 1]? = some (.cells #[.int .u64 (wd c 0), .int .u64 (wd c 1), .int .u64 (wd c 2), .int .u64 (wd c 3)] 37 (0, 0))
  rd : RD (w.heap.size + 1 + 1) S a w'
  bel : Below w.heap.size w w'
theorem z_start (S : ByteArray) (w : World) : Z S 0#256 0 w (((w.alloc (.cells #[.int .u64 0, .int .u64 0, .int .u64 0, .int .u64 0] 37)).alloc (.cells #[.int .u64 0, .int .u64 0, .int .u64 0, .int .u64 0] 37)).alloc (.cells #[.string S, .int .i64 0] 206)) := by
  refine ⟨?_, ?_, rd_alloc3 _ _ _, (((Below.refl _ _).alloc (Nat.le_refl _) _).alloc (by simp) _).alloc (by simp; omega) _⟩
  · rw [RowKit.Below.heap_alloc _ _ _ (by simp; omega), RowKit.Below.heap_alloc _ _ _ (by simp), heap_alloc_new]
  · rw [RowKit.Below.heap_alloc _ _ _ (by simp)]
    have := heap_alloc_new (w.alloc (.cells #[.int .u64 0, .int .u64 0, .int .u64 0, .int .u64 0] 37)) (.cells #[.int .u64 0, .int .u64 0, .int .u64 0, .int .u64 0] 37)
    simp only [World.size_alloc, wd_zero] at this ⊢
    exact this
theorem Z.lt {S : ByteArray} {c : BitVec 256} {a : Nat} {w w' : World} (h : Z S c a w w') : w.heap.size + 1 + 1 < w'.heap.size := rd_lt h.rd
theorem Z.below {S : ByteArray} {c : BitVec 256} {a : Nat} {w w1 w2 : World} (h : Z S c a w w1) (hb : Below w1.heap.size w1 w2) : Z S c a w w2 :=
  ⟨(hb.block _ (by have := h.lt; omega)).trans h.res, (hb.block _ (by have := h.lt; omega)).trans h.cls, rd_below h.rd hb, below_step h.bel h.bel.size hb⟩
theorem Z.rto {S : ByteArray} {c : BitVec 256} {a b : Nat} {w w1 w2 : World} (h : Z S c a w w1) (t : Rto (w.heap.size + 1 + 1) S b w1 w2) : Z S c b w w2 :=
  ⟨(t.2.block _ (by have := h.lt; omega) (by simp; omega)).trans h.res, (t.2.block _ (by have := h.lt; omega) (by simp)).trans h.cls, t.1, h.bel.grown t.2 h.bel.size (fun k hk => by injection hk; omega)⟩
theorem Z.set {S : ByteArray} {c : BitVec 256} {a : Nat} {w w1 : World} (h : Z S c a w w1) : Z S c a w ((((w1.setCell ⟨w.heap.size, 0, none⟩ (.int .u64 0)).setCell ⟨w.heap.size, 1, none⟩ (.int .u64 0)).setCell ⟨w.heap.size, 2, none⟩ (.int .u64 0)).setCell ⟨w.heap.size, 3, none⟩ (.int .u64 0)) := by
  have o : ∀ (w2 : World) (k j : Nat) (v : Value), k ≠ w.heap.size → (w2.setCell ⟨w.heap.size, j, none⟩ v).heap[k]? = w2.heap[k]? := fun w2 k j v hk => heap_setCell_other w2 ⟨w.heap.size, j, none⟩ k v hk
  have hl := h.lt
  refine ⟨?_, ?_, ?_, (((h.bel.setCell (Nat.le_refl _) _).setCell (Nat.le_refl _) _).setCell (Nat.le_refl _) _).setCell (Nat.le_refl _) _⟩
  · exact set4p h.res
  · rw [o _ _ _ _ (by omega), o _ _ _ _ (by omega), o _ _ _ _ (by omega), o _ _ _ _ (by omega)]; exact h.cls
  · unfold RD; rw [o _ _ _ _ (by omega), o _ _ _ _ (by omega), o _ _ _ _ (by omega), o _ _ _ _ (by omega)]; exact h.rd
theorem z_cells {S : ByteArray} {a : Nat} {w w' : World} (h : Z S 0#256 a w w') : Z S 0#256 a w w' ∧ w'.cell? ⟨w.heap.size + 1, 0, none⟩ = some (.int .u64 0) ∧ w'.cell? ⟨w.heap.size + 1, 1, none⟩ = some (.int .u64 0) ∧ w'.cell? ⟨w.heap.size + 1, 2, none⟩ = some (.int .u64 0) ∧ w'.cell? ⟨w.heap.size + 1, 3, none⟩ = some (.int .u64 0) ∧ w'.cell? ⟨w.heap.size, 0, none⟩ = some (.int .u64 0) ∧ w'.cell? ⟨w.heap.size, 1, none⟩ = some (.int .u64 0) ∧ w'.cell? ⟨w.heap.size, 2, none⟩ = some (.int .u64 0) ∧ w'.cell? ⟨w.heap.size, 3, none⟩ = some (.int .u64 0) ∧ (∀ j, w'.frozen? ⟨w.heap.size, j, none⟩ = false) := by
  have c := (cells_at h.cls).1
  have d := cells_at h.res
  refine ⟨h, ?_, ?_, ?_, ?_, ?_, ?_, ?_, ?_, d.2.1⟩
  all_goals first | (rw [c]; simp [wd_zero]; done) | (rw [d.1]; simp)
set_option maxRecDepth 100000 in
set_option maxHeartbeats 3200000 in
theorem par_0 (S : ByteArray) (w : World) (hs : S.size ≤ 140737488355328) (hb : byteAt (bl S) 0 ≠ 91) :
    Calls Tryz.prog 116 #[.string S] w (ParP w (parsed (bl S))) := by
  have P1 := Lib.hid (show pk [91] (byteAt (bl S) 0) = -1 by have := pk_one 91 (by decide) _ (show byteAt (bl S) 0 < 257 by have := byteAt_le (bl S) 0; omega); rw [if_neg hb] at this; exact this)
  have HG := Lib.hid (show parsed (bl S) = .inl (wrongAt (bl S) 0) by rw [parsed, if_neg hb])
  clear hb
  have z0 := z_start S w
  go_enter Tryz.func116, Tryz.ntmps116
  repeat (first | go_values | go_skip | go_guarded | go_step | go_upon)
  refine (pick_no (w.heap.size + 1 + 1) S 0 [91] _ (rd_alloc3 _ _ _) hs P1.out).mono ?_
  rintro e w1 ⟨rfl, t1⟩
  have z1 := z0.rto t1
  obtain ⟨cB, fB, zB⟩ := cells_at z1.cls
  obtain ⟨cA, fA, zA⟩ := cells_at z1.res
  dsimp only
  repeat (first | go_values | go_skip | go_guarded | go_step | go_upon)
  have mk : ∀ w', Z S 0#256 0 w w' → (Z S 0#256 0 w w' ∧ w'.cell? ⟨w.heap.size + 1, 0, none⟩ = some (.int .u64 0) ∧ w'.cell? ⟨w.heap.size + 1, 1, none⟩ = some (.int .u64 0) ∧ w'.cell? ⟨w.heap.size + 1, 2, none⟩ = some (.int .u64 0) ∧ w'.cell? ⟨w.heap.size + 1, 3, none⟩ = some (.int .u64 0) ∧ w'.cell? ⟨w.heap.size, 0, none⟩ = some (.int .u64 0) ∧ w'.cell? ⟨w.heap.size, 1, none⟩ = some (.int .u64 0) ∧ w'.cell? ⟨w.heap.size, 2, none⟩ = some (.int .u64 0) ∧ w'.cell? ⟨w.heap.size, 3, none⟩ = some (.int .u64 0) ∧ (∀ j, w'.frozen? ⟨w.heap.size, j, none⟩ = false)) := fun w' h => z_cells h
  clear z0 t1 cA fA zA cB fB zB
  go_region_held3 (fun w' => Z S 0#256 0 w w' ∧ w'.cell? ⟨w.heap.size + 1, 0, none⟩ = some (.int .u64 0) ∧ w'.cell? ⟨w.heap.size + 1, 1, none⟩ = some (.int .u64 0) ∧ w'.cell? ⟨w.heap.size + 1, 2, none⟩ = some (.int .u64 0) ∧ w'.cell? ⟨w.heap.size + 1, 3, none⟩ = some (.int .u64 0) ∧ w'.cell? ⟨w.heap.size, 0, none⟩ = some (.int .u64 0) ∧ w'.cell? ⟨w.heap.size, 1, none⟩ = some (.int .u64 0) ∧ w'.cell? ⟨w.heap.size, 2, none⟩ = some (.int .u64 0) ∧ w'.cell? ⟨w.heap.size, 3, none⟩ = some (.int .u64 0) ∧ (∀ j, w'.frozen? ⟨w.heap.size, j, none⟩ = false)) ((go_split_ands; refine mk _ ?_; first | assumption | exact Z.below (by assumption) (by assumption) | exact Z.below (by assumption) (drew_below _) | exact Z.set (by assumption))) ((go_at_call 131; refine (wrong_any (w.heap.size + 1 + 1) S 0 _ (by go_split_ands; exact Z.rd (by assumption)) hs).mono ?_; rintro e w3 ⟨⟨p, rfl, hp, hl⟩, hb3⟩; go_split_ands; have z3 := z_cells (Z.below (by assumption) hb3); go_split_ands))
  go_split_ands
  have z3 : Z S 0#256 0 w w3 := by assumption
  obtain ⟨cA, fA, zA⟩ := cells_at z3.res
  repeat (first | go_values | go_skip | go_guarded | go_step | go_upon)
  refine bodyPost_ret (v := .tuple #[cls0, .int .i64 0, .iface 79 (.pointer (some ⟨p, 0, none⟩))]) (by simp [cls0, results, Tryz.results116, go_sem, cA]) rfl ?_
  have hz1 := z1.lt
  have hl2 : w.heap.size < p := by simp at hl; omega
  exact ParP.no HG.out rfl (fault_set (fault_set (fault_set (fault_set hp (by simp; omega) _) (by simp; omega) _) (by simp; omega) _) (by simp; omega) _) (Nat.le_of_lt hl2) (Z.bel (S := S) (c := 0#256) (a := 0) (by assumption))
theorem bel4 {w w1 : World} (h : Below w.heap.size w w1) (a b c d : Value) : Below w.heap.size w ((((w1.setCell ⟨w.heap.size, 0, none⟩ a).setCell ⟨w.heap.size, 1, none⟩ b).setCell ⟨w.heap.size, 2, none⟩ c).setCell ⟨w.heap.size, 3, none⟩ d) :=
  (((h.setCell (Nat.le_refl _) _).setCell (Nat.le_refl _) _).setCell (Nat.le_refl _) _).setCell (Nat.le_refl _) _
theorem mems_one {s : List UInt8} {f a : Nat} {c : BitVec 256} (h : byteAt s a = 93) : memsAt s (f + 1) a c = .inr (c, a + 1) := by rw [memsAt, if_pos h]
theorem mems_bad {s : List UInt8} {f a : Nat} {c : BitVec 256} {er : Nat × Nat} (h : byteAt s a ≠ 93) (hm : memAt s a = .inl er) : memsAt s (f + 1) a c = .inl er := by rw [memsAt, if_neg h, hm]
theorem mems_on {s : List UInt8} {f a n : Nat} {c m : BitVec 256} (h : byteAt s a ≠ 93) (hm : memAt s a = .inr (m, n)) : memsAt s (f + 1) a c = memsAt s f n (c ||| m) := by rw [memsAt, if_neg h, hm]
/-- What comes of the members. -/
def doneP (nt : Bool) (g : Got (BitVec 256)) : Got (BitVec 256) := match g with
  | .inl e => .inl e
  | .inr (c, n) => .inr (if nt then ~~~c else c, n)
theorem fault_alloc {p : Nat} {er : Nat × Nat} {w : World} (h : FaultAt p er w) (o : Obj) : FaultAt p er (w.alloc o) := fault_below h ((Below.refl _ _).alloc (Nat.le_refl _) o)
theorem Z.alloc {S : ByteArray} {c : BitVec 256} {a : Nat} {w w1 : World} (h : Z S c a w w1) (o : Obj) : Z S c a w (w1.alloc o) := h.below ((Below.refl _ _).alloc (Nat.le_refl _) o)
theorem Z.sethi {S : ByteArray} {c : BitVec 256} {a : Nat} {w w1 : World} (h : Z S c a w w1) {p : Addr} (hp : w.heap.size + 1 + 1 < p.block) (v : Value) : Z S c a w (w1.setCell p v) :=
  ⟨(heap_setCell_other w1 p _ v (fun e => by omega)).trans h.res, (heap_setCell_other w1 p _ v (fun e => by omega)).trans h.cls, (heap_setCell_other w1 p _ v (fun e => by omega)).trans h.rd, h.bel.setCell (by omega) _⟩
theorem Z.cset {S : ByteArray} {c : BitVec 256} (d : BitVec 256) {a : Nat} {w w1 : World} (h : Z S c a w w1) : Z S d a w ((((w1.setCell ⟨w.heap.size + 1, 0, none⟩ (.int .u64 (wd d 0))).setCell ⟨w.heap.size + 1, 1, none⟩ (.int .u64 (wd d 1))).setCell ⟨w.heap.size + 1, 2, none⟩ (.int .u64 (wd d 2))).setCell ⟨w.heap.size + 1, 3, none⟩ (.int .u64 (wd d 3))) := by
  have o : ∀ (w2 : World) (k j : Nat) (v : Value), k ≠ w.heap.size + 1 → (w2.setCell ⟨w.heap.size + 1, j, none⟩ v).heap[k]? = w2.heap[k]? := fun w2 k j v hk => heap_setCell_other w2 ⟨w.heap.size + 1, j, none⟩ k v hk
  refine ⟨?_, set4p h.cls, ?_, (((h.bel.setCell (by simp) _).setCell (by simp) _).setCell (by simp) _).setCell (by simp) _⟩
  · rw [o _ _ _ _ (by omega), o _ _ _ _ (by omega), o _ _ _ _ (by omega), o _ _ _ _ (by omega)]; exact h.res
  · unfold RD; rw [o _ _ _ _ (by omega), o _ _ _ _ (by omega), o _ _ _ _ (by omega), o _ _ _ _ (by omega)]; exact h.rd
set_option maxRecDepth 100000 in
set_option maxHeartbeats 3200000 in
theorem par_m (S : ByteArray) (w : World) (hs : S.size ≤ 140737488355328) (hb : byteAt (bl S) 0 = 91) (hn : byteAt (bl S) 1 ≠ 94) :
    Calls Tryz.prog 116 #[.string S] w (ParP w (parsed (bl S))) := by
  have hlen := bl_length S
  have h0 := byteAt_in (s := bl S) (a := 0) (by omega)
  have P1 := Lib.hid (show pk [91] (byteAt (bl S) 0) = (0 : Nat) by rw [hb]; decide)
  have P2 := Lib.hid (show pk [94] (byteAt (bl S) 1) = -1 by have := pk_one 94 (by decide) _ (show byteAt (bl S) 1 < 257 by have := byteAt_le (bl S) 1; omega); rw [if_neg hn] at this; exact this)
  have HG := Lib.hid (show parsed (bl S) = doneP false (memsAt (bl S) ((bl S).length + 1) 1 0) by
    rw [parsed, if_pos hb, if_neg hn]
    cases memsAt (bl S) ((bl S).length + 1) 1 0 <;> rfl)
  clear hb hn
  have z0 := z_start S w
  generalize hM : memsAt (bl S) ((bl S).length + 1) 1 0 = G at HG
  have HM := Lib.hid hM
  clear hM
  go_enter Tryz.func116, Tryz.ntmps116
  repeat (first | go_values | go_skip | go_guarded | go_step | go_upon)
  refine (pick_yes (w.heap.size + 1 + 1) S 0 [91] 0 _ (rd_alloc3 _ _ _) hs P1.out).mono ?_
  rintro e w1 ⟨rfl, t1⟩
  have z1 := z0.rto t1
  dsimp only
  repeat (first | go_values | go_skip | go_guarded | go_step | go_upon)
  refine (pick_no (w.heap.size + 1 + 1) S 1 [94] _ z1.rd hs P2.out).mono ?_
  rintro e w2 ⟨rfl, t2⟩
  have z2 := z1.rto t2
  dsimp only
  repeat (first | go_values | go_skip | go_guarded | go_step | go_upon)
  go_loopw [24] (fun _ wr => ∃ (f a : Nat) (c : BitVec 256), Z S c a w wr ∧ Hid (memsAt (bl S) f a c = G) ∧ (bl S).length < f + a ∧ a ≤ S.size) (fun _ wr => S.size - (intOf ((wr.cell? ⟨w.heap.size + 1 + 1, 1, none⟩).getD undef)).toNat)
  case atStart => exact ⟨_, 1, 0, z2, HM, by omega, by omega⟩
  case round =>
    obtain ⟨f, a, c, z, hG, hf, ha⟩ := hrel
    obtain ⟨f, rfl⟩ : ∃ g, f = g + 1 := ⟨f - 1, by omega⟩
    have hle := byteAt_le (bl S) a
    by_cases h93 : byteAt (bl S) a = 93
    · have P3 := Lib.hid (show pk [93] (byteAt (bl S) a) = (0 : Nat) by rw [h93]; decide)
      have HX := Lib.hid (show G = .inr (c, a + 1) by rw [← hG.out, mems_one h93])
      clear h93
      repeat (first | go_values | go_skip | go_guarded | go_step | go_upon)
      refine (pick_yes (w.heap.size + 1 + 1) S a [93] 0 _ z.rd hs P3.out).mono ?_
      rintro e w3 ⟨rfl, t3⟩
      have z3 := z.rto t3
      obtain ⟨cB, fB, zB⟩ := cells_at z3.cls
      obtain ⟨cA, fA, zA⟩ := cells_at z3.res
      obtain ⟨r0, r1, fr⟩ := rd_cells z3.rd
      dsimp only
      repeat (first | go_values | go_skip | go_guarded | go_step | go_upon)
      go_region
      repeat (first | go_values | go_skip | go_guarded | go_step | go_upon)
      refine bodyPost_ret (v := .tuple #[.agg #[.int .u64 (wd c 0), .int .u64 (wd c 1), .int .u64 (wd c 2), .int .u64 (wd c 3)], .int .i64 ((a + 1 : Nat) : Int), .nilIface]) (by simp [results, Tryz.results116, go_sem, cA]) rfl ?_
      exact ParP.ok (HG.out.trans (by rw [HX.out]; rfl)) rfl (bel4 z3.bel _ _ _ _).drew
    · have P3 := Lib.hid (show pk [93] (byteAt (bl S) a) = -1 by have := pk_one 93 (by decide) _ (show byteAt (bl S) a < 257 by omega); rw [if_neg h93] at this; exact this)
      cases hm : memAt (bl S) a with
      | inl er =>
        have HX := Lib.hid (show G = .inl er by rw [← hG.out, mems_bad h93 hm])
        have HE := Lib.hid hm
        clear h93 hm
        repeat (first | go_values | go_skip | go_guarded | go_step | go_upon)
        refine (pick_no (w.heap.size + 1 + 1) S a [93] _ z.rd hs P3.out).mono ?_
        rintro e w3 ⟨rfl, t3⟩
        have z3 := z.rto t3
        dsimp only
        repeat (first | go_values | go_skip | go_guarded | go_step | go_upon)
        refine (rmem_no (w.heap.size + 1 + 1) S a _ z3.rd hs HE.out).mono ?_
        rintro e w4 ⟨⟨p, rfl, hp, hl⟩, n4, t4⟩
        have z4 := z3.rto t4
        obtain ⟨cA, fA, zA⟩ := cells_at z4.res
        have hp4 := (Array.getElem?_eq_some_iff.1 hp).1
        have hl4 := z3.lt
        have hl5 := z4.lt
        dsimp only [cls0]
        repeat (first | go_values | go_skip | go_guarded | go_step | go_upon)
        refine bodyPost_ret (v := .tuple #[cls0, .int .i64 0, .iface 79 (.pointer (some ⟨p, 0, none⟩))]) (by simp [cls0, results, Tryz.results116, go_sem, cA, zA]) rfl ?_
        refine ParP.no (HG.out.trans (by rw [HX.out]; rfl)) rfl ?_ (by omega) ?_
        · repeat (first | (with_reducible exact hp) | refine fault_set ?_ (by simp; omega) _ | refine fault_alloc ?_ _)
        · repeat (first | (with_reducible exact z4.bel) | refine RowKit.Below.setCell ?_ (by first | (with_reducible exact Nat.le_refl _) | (simp; omega)) _ | refine RowKit.Below.alloc ?_ (by first | (simp; done) | (simp; omega) | omega) _)
      | inr q =>
        obtain ⟨m, n⟩ := q
        have HX := Lib.hid (show memsAt (bl S) f n (c ||| m) = G by rw [← hG.out, mems_on h93 hm])
        have HE := Lib.hid hm
        have hbd := memAt_bd hm
        clear h93 hm
        repeat (first | go_values | go_skip | go_guarded | go_step | go_upon)
        refine (pick_no (w.heap.size + 1 + 1) S a [93] _ z.rd hs P3.out).mono ?_
        rintro e w3 ⟨rfl, t3⟩
        have z3 := z.rto t3
        dsimp only
        repeat (first | go_values | go_skip | go_guarded | go_step | go_upon)
        refine (rmem_ok (w.heap.size + 1 + 1) S a _ z3.rd hs HE.out).mono ?_
        rintro e w4 ⟨rfl, t4⟩
        have z4 := z3.rto t4
        obtain ⟨cA, fA, zA⟩ := cells_at z4.res
        obtain ⟨cB, fB, zB⟩ := cells_at z4.cls
        dsimp only
        repeat (first | go_values | go_skip | go_guarded | go_step | go_upon)
        refine (either_any _ _ _).mono ?_
        rintro e w5 ⟨rfl, hb5⟩
        have hl4 := z4.lt
        have z5 : Z S c n w w5 := by
          refine Z.below ?_ hb5
          repeat (first | (with_reducible exact z4) | refine Z.sethi ?_ (by simp; omega) _ | refine Z.alloc ?_ _)
        obtain ⟨cA5, fA5, zA5⟩ := cells_at z5.res
        obtain ⟨cB5, fB5, zB5⟩ := cells_at z5.cls
        dsimp only
        repeat (first | go_values | go_skip | go_guarded | go_step | go_upon)
        have z6 := Z.cset (c ||| m) z5
        refine ⟨⟨f, n, c ||| m, z6, HX, by omega, by omega⟩, ?_⟩
        rw [(rd_cells z6.rd).2.1, (rd_cells z.rd).2.1]
        simp [intOf]
        omega
end Go.Proofs.YtjlcoldnhbkcgaaGreatDoor
