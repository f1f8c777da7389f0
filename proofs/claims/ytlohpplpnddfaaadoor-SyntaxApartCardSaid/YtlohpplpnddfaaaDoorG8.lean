/- The walk of class.Parse. | The walk of class.Parse behind '[^', and all of it. | errors.As at the two targets of package api, at what the program's errors are (after the guide's worked text ToyasAs). | errors.As, api.Code, api.At: walked. -/
import Derived.Test.YtlohpplpnddfaaaDoorG5
import Derived.Outline
import Derived.Deep.RegionHeld3
import Derived.Test.YtlohpplpnddfaaaDoorProg
import Derived.Test.YtlohpplpnddfaaaDoorG0
import Derived.LaidEql
import Derived.Stop.Asserts
import Derived.RowKitTokens
namespace Go.Proofs.YtlohpplpnddfaaaDoor
open Go.RowKit Go.Sort

theorem rmem_ok (R : Nat) (S : ByteArray) (a : Nat) (w : World) (h : RD R S a w) (hs : S.size ≤ 140737488355328) {c : BitVec 256} {n : Nat} (hg : memAt (bl S) a = .inr (c, n)) :
    Calls Tryd.prog 55 #[.pointer (some ⟨R, 0, none⟩)] w (fun e w' => e = .returned (.tuple #[.agg #[.int .u64 (wd c 0), .int .u64 (wd c 1), .int .u64 (wd c 2), .int .u64 (wd c 3)], .nilIface]) ∧ Rto R S n w w') := by
  have := mem_any R S a w h hs
  rw [hg] at this
  exact this
theorem rmem_no (R : Nat) (S : ByteArray) (a : Nat) (w : World) (h : RD R S a w) (hs : S.size ≤ 140737488355328) {er : Nat × Nat} (hg : memAt (bl S) a = .inl er) :
    Calls Tryd.prog 55 #[.pointer (some ⟨R, 0, none⟩)] w (fun e w' => AnsFault er w (fun v => .tuple #[cls0, v]) e w' ∧ ∃ n, Rto R S n w w') := by
  have := mem_any R S a w h hs
  rw [hg] at this
  exact this
/-- A class was read, or what is wrong. -/
def ParP (w : World) (g : Got (BitVec 256)) (e : Ending) (w' : World) : Prop :=
  match g with
  | .inr (c, n) => e = .returned (.tuple #[.agg #[.int .u64 (wd c 0), .int .u64 (wd c 1), .int .u64 (wd c 2), .int .u64 (wd c 3)], .int .i64 (n : Int), .nilIface]) ∧ Below w.heap.size w w'
  | .inl er => AnsFault er w (fun v => .tuple #[cls0, .int .i64 0, v]) e w' ∧ Below w.heap.size w w'
theorem ParP.ok {w w' : World} {g : Got (BitVec 256)} {e : Ending} {c : BitVec 256} {n : Nat} (hg : g = .inr (c, n)) (he : e = .returned (.tuple #[.agg #[.int .u64 (wd c 0), .int .u64 (wd c 1), .int .u64 (wd c 2), .int .u64 (wd c 3)], .int .i64 (n : Int), .nilIface])) (h : Below w.heap.size w w') : ParP w g e w' := by
  subst hg; exact ⟨he, h⟩
theorem ParP.no {w w' : World} {g : Got (BitVec 256)} {er : Nat × Nat} {p : Nat} {e : Ending} (hg : g = .inl er) (he : e = .returned (.tuple #[cls0, .int .i64 0, .iface 90 (.pointer (some ⟨p, 0, none⟩))])) (hp : FaultAt p er w') (hl : w.heap.size ≤ p) (h : Below w.heap.size w w') :
    ParP w g e w' := by
  subst hg; exact ⟨⟨p, he, hp, hl⟩, h⟩
theorem rd_alloc {S : ByteArray} (w : World) : RD w.heap.size S 0 (w.alloc (.cells #[.string S, .int .i64 0] 84)) := heap_alloc_new _ _
theorem rd_alloc3 {S : ByteArray} (w : World) (o1 o2 : Obj) : RD (w.heap.size + 1 + 1) S 0 (((w.alloc o1).alloc o2).alloc (.cells #[.string S, .int .i64 0] 84)) := by
  have := rd_alloc (S := S) ((w.alloc o1).alloc o2)
  simpa using this
theorem set4p {w : World} {B : Nat} {a b c d a' b' c' d' : Value} {t : TypeId} (h : w.heap[B]? = some (.cells #[a, b, c, d] t (0, 0))) :
    ((((w.setCell ⟨B, 0, none⟩ a').setCell ⟨B, 1, none⟩ b').setCell ⟨B, 2, none⟩ c').setCell ⟨B, 3, none⟩ d').heap[B]? = some (.cells #[a', b', c', d'] t (0, 0)) :=
  heap_setCell_same _ B 3 _ _ _ (heap_setCell_same _ B 2 _ _ _ (heap_setCell_same _ B 1 _ _ _ (heap_setCell_same _ B 0 _ _ _ h)))
/-- The three blocks of the call: what is answered, the class so far, the reader. -/
structure Z (S : ByteArray) (c : BitVec 256) (a : Nat) (w w' : World) : Prop where
  res : w'.heap[w.heap.size]? = some (.cells #[.int .u64 0, .int .u64 0, .int .u64 0, .int .u64 0] 24 (0, 0))
  cls : w'.heap[w.heap.size + 1]? = some (.cells #[.int .u64 (wd c 0), .int .u64 (wd c 1), .int .u64 (wd c 2), .int .u64 (wd c 3)] 24 (0, 0))
  rd : RD (w.heap.size + 1 + 1) S a w'
  bel : Below w.heap.size w w'
theorem z_start (S : ByteArray) (w : World) : Z S 0#256 0 w (((w.alloc (.cells #[.int .u64 0, .int .u64 0, .int .u64 0, .int .u64 0] 24)).alloc (.cells #[.int .u64 0, .int .u64 0, .int .u64 0, .int .u64 0] 24)).alloc (.cells #[.string S, .int .i64 0] 84)) := by
  refine ⟨?_, ?_, rd_alloc3 _ _ _, (((Below.refl _ _).alloc (Nat.le_refl _) _).alloc (by simp) _).alloc (by simp; omega) _⟩
  · rw [RowKit.Below.heap_alloc _ _ _ (by simp; omega), RowKit.Below.heap_alloc _ _ _ (by simp), heap_alloc_new]
  · rw [RowKit.Below.heap_alloc _ _ _ (by simp)]
    have := heap_alloc_new (w.alloc (.cells #[.int .u64 0, .int .u64 0, .int .u64 0, .int .u64 0] 24)) (.cells #[.int .u64 0, .int .u64 0, .int .u64 0, .int .u64 0] 24)
    simp only [World.size_alloc, wd_zero] at this ⊢
    exact this
theorem Z.lt {S : ByteArray} {c : BitVec 256} {a : Nat} {w w' : World} (h : Z S c a w w') : w.heap.size + 1 + 1 < w'.heap.size := rd_lt h.rd
theorem Z.below {S : ByteArray} {c : BitVec 256} {a : Nat} {w w1 w2 : World} (h : Z S c a w w1) (hb : Below w1.heap.size w1 w2) : Z S c a w w2 :=
  ⟨(hb.block _ (by have := h.lt; omega)).trans h.res, (hb.block _ (by have := h.lt; omega)).trans h.cls, rd_below h.rd hb, below_step h.bel h.bel.size hb⟩
theorem Z.rto {S : ByteArray} {c : BitVec 256} {a b : Nat} {w w1 w2 : World} (h : Z S c a w w1) (t : Rto (w.heap.size + 1 + 1) S b w1 w2) : Z S c b w w2 :=
  ⟨(t.2.block _ (by have := h.lt; omega) (by simp; omega)).trans h.res, (t.2.block _ (by have := h.lt; omega) (by simp)).trans h.cls, t.1, h.bel.grown t.2 h.bel.size (fun k hk => by injection hk; omega)⟩
theorem Z.set {S : ByteArray} {c : BitVec 256} {a : Nat} {w w1 : World} (h : Z S c a w w1) : Z S c a w ((((w1.setCell ⟨w.heap.size, 0, none⟩ (.int .u64 0)).setCell ⟨w.heap.size, 1, none⟩ (.int .u64 0)).setCell ⟨w.heap.size, 2, none⟩ (.int .u64 0)).setCell ⟨w.heap.size, 3, none⟩ (.int .u64 0)) := by
  have o : ∀ (w2 : World) (k j : Nat) (v : Value), k ≠ w.heap.size → (w2.setCell ⟨w.heap.size, j, none⟩ v).heap[k]? = w2.heap[k]? := fun w2 k j v hk => heap_setCell_other w2 ⟨w.heap.size, j, none⟩ k v hk
  have hl := h.lt
  refine ⟨?_, ?_, ?_, (((h.bel.setCell (Nat.le_refl _) _).setCell (Nat.le_refl _) _).setCell (Nat.le_refl _) _).setCell (Nat.le_refl _) _⟩
  · exact set4p h.res
  · rw [o _ _ _ _ (by omega), o _ _ _ _ (by omega), o _ _ _ _ (by omega), o _ _ _ _ (by omega)]; exact h.cls
  · unfold RD; rw [o _ _ _ _ (by omega), o _ _ _ _ (by omega), o _ _ _ _ (by omega), o _ _ _ _ (by omega)]; exact h.rd
theorem z_cells {S : ByteArray} {a : Nat} {w w' : World} (h : Z S 0#256 a w w') : Z S 0#256 a w w' ∧ w'.cell? ⟨w.heap.size + 1, 0, none⟩ = some (.int .u64 0) ∧ w'.cell? ⟨w.heap.size + 1, 1, none⟩ = some (.int .u64 0) ∧ w'.cell? ⟨w.heap.size + 1, 2, none⟩ = some (.int .u64 0) ∧ w'.cell? ⟨w.heap.size + 1, 3, none⟩ = some (.int .u64 0) ∧ w'.cell? ⟨w.heap.size, 0, none⟩ = some (.int .u64 0) ∧ w'.cell? ⟨w.heap.size, 1, none⟩ = some (.int .u64 0) ∧ w'.cell? ⟨w.heap.size, 2, none⟩ = some (.int .u64 0) ∧ w'.cell? ⟨w.heap.size, 3, none⟩ = some (.int .u64 0) ∧ (∀ j, w'.frozen? ⟨w.heap.size, j, none⟩ = false) := by
  have c := (cells_at h.cls).1
  have d := cells_at h.res
  refine ⟨h, ?_, ?_, ?_, ?_, ?_, ?_, ?_, ?_, d.2.1⟩
  all_goals first | (rw [c]; simp [wd_zero]; done) | (rw [d.1]; simp)
set_option maxRecDepth 100000 in
set_option maxHeartbeats 3200000 in
theorem par_0 (S : ByteArray) (w : World) (hs : S.size ≤ 140737488355328) (hb : byteAt (bl S) 0 ≠ 91) :
    Calls Tryd.prog 32 #[.string S] w (ParP w (parsed (bl S))) := by
  have P1 := Lib.hid (show pk [91] (byteAt (bl S) 0) = -1 by have := pk_one 91 (by decide) _ (show byteAt (bl S) 0 < 257 by have := byteAt_le (bl S) 0; omega); rw [if_neg hb] at this; exact this)
  have HG := Lib.hid (show parsed (bl S) = .inl (wrongAt (bl S) 0) by rw [parsed, if_neg hb])
  clear hb
  have z0 := z_start S w
  go_enter Tryd.func32, Tryd.ntmps32
  repeat (first | go_values | go_skip | go_guarded | go_step | go_upon)
  refine (pick_no (w.heap.size + 1 + 1) S 0 [91] _ (rd_alloc3 _ _ _) hs P1.out).mono ?_
  rintro e w1 ⟨rfl, t1⟩
  have z1 := z0.rto t1
  obtain ⟨cB, fB, zB⟩ := cells_at z1.cls
  obtain ⟨cA, fA, zA⟩ := cells_at z1.res
  dsimp only
  repeat (first | go_values | go_skip | go_guarded | go_step | go_upon)
  have mk : ∀ w', Z S 0#256 0 w w' → (Z S 0#256 0 w w' ∧ w'.cell? ⟨w.heap.size + 1, 0, none⟩ = some (.int .u64 0) ∧ w'.cell? ⟨w.heap.size + 1, 1, none⟩ = some (.int .u64 0) ∧ w'.cell? ⟨w.heap.size + 1, 2, none⟩ = some (.int .u64 0) ∧ w'.cell? ⟨w.heap.size + 1, 3, none⟩ = some (.int .u64 0) ∧ w'.cell? ⟨w.heap.size, 0, none⟩ = some (.int .u64 0) ∧ w'.cell? ⟨w.heap.size, 1, none⟩ = some (.int .u64 0) ∧ w'.cell? ⟨w.heap.size, 2, none⟩ = some (.int .u64 0) ∧ w'.cell? ⟨w.heap.size, 3, none⟩ = some (.int .u64 0) ∧ (∀ j, w'.frozen? ⟨w.heap.size, j, none⟩ = false)) := fun w' h => z_cells h
  clear z0 t1 cA fA zA cB fB zB
  go_region_held3 (fun w' => Z S 0#256 0 w w' ∧ w'.cell? ⟨w.heap.size + 1, 0, none⟩ = some (.int .u64 0) ∧ w'.cell? ⟨w.heap.size + 1, 1, none⟩ = some (.int .u64 0) ∧ w'.cell? ⟨w.heap.size + 1, 2, none⟩ = some (.int .u64 0) ∧ w'.cell? ⟨w.heap.size + 1, 3, none⟩ = some (.int .u64 0) ∧ w'.cell? ⟨w.heap.size, 0, none⟩ = some (.int .u64 0) ∧ w'.cell? ⟨w.heap.size, 1, none⟩ = some (.int .u64 0) ∧ w'.cell? ⟨w.heap.size, 2, none⟩ = some (.int .u64 0) ∧ w'.cell? ⟨w.heap.size, 3, none⟩ = some (.int .u64 0) ∧ (∀ j, w'.frozen? ⟨w.heap.size, j, none⟩ = false)) ((go_split_ands; refine mk _ ?_; first | assumption | exact Z.below (by assumption) (by assumption) | exact Z.below (by assumption) (drew_below _) | exact Z.set (by assumption))) ((go_at_call 54; refine (wrong_any (w.heap.size + 1 + 1) S 0 _ (by go_split_ands; exact Z.rd (by assumption)) hs).mono ?_; rintro e w3 ⟨⟨p, rfl, hp, hl⟩, hb3⟩; go_split_ands; have z3 := z_cells (Z.below (by assumption) hb3); go_split_ands))
  go_split_ands
  have z3 : Z S 0#256 0 w w3 := by assumption
  obtain ⟨cA, fA, zA⟩ := cells_at z3.res
  repeat (first | go_values | go_skip | go_guarded | go_step | go_upon)
  refine bodyPost_ret (v := .tuple #[cls0, .int .i64 0, .iface 90 (.pointer (some ⟨p, 0, none⟩))]) (by simp [cls0, results, Tryd.results32, go_sem, cA]) rfl ?_
  have hz1 := z1.lt
  have hl2 : w.heap.size < p := by simp at hl; omega
  exact ParP.no HG.out rfl (fault_set (fault_set (fault_set (fault_set hp (by simp; omega) _) (by simp; omega) _) (by simp; omega) _) (by simp; omega) _) (Nat.le_of_lt hl2) (Z.bel (S := S) (c := 0#256) (a := 0) (by assumption))
theorem bel4 {w w1 : World} (h : Below w.heap.size w w1) (a b c d : Value) : Below w.heap.size w ((((w1.setCell ⟨w.heap.size, 0, none⟩ a).setCell ⟨w.heap.size, 1, none⟩ b).setCell ⟨w.heap.size, 2, none⟩ c).setCell ⟨w.heap.size, 3, none⟩ d) :=
  (((h.setCell (Nat.le_refl _) _).setCell (Nat.le_refl _) _).setCell (Nat.le_refl _) _).setCell (Nat.le_refl _) _
theorem mems_one {s : List UInt8} {f a : Nat} {c : BitVec 256} (h : byteAt s a = 93) : memsAt s (f + 1) a c = .inr (c, a + 1) := by rw [memsAt, if_pos h]
theorem mems_bad {s : List UInt8} {f a : Nat} {c : BitVec 256} {er : Nat × Nat} (h : byteAt s a ≠ 93) (hm : memAt s a = .inl er) : memsAt s (f + 1) a c = .inl er := by rw [memsAt, if_neg h, hm]
theorem mems_on {s : List UInt8} {f a n : Nat} {c m : BitVec 256} (h : byteAt s a ≠ 93) (hm : memAt s a = .inr (m, n)) : memsAt s (f + 1) a c = memsAt s f n (c ||| m) := by rw [memsAt, if_neg h, hm]
/-- What comes of the members. -/
def doneP (nt : Bool) (g : Got (BitVec 256)) : Got (BitVec 256) := match g with
  | .inl e => .inl e
  | .inr (c, n) => .inr (if nt then ~~~c else c, n)
theorem fault_alloc {p : Nat} {er : Nat × Nat} {w : World} (h : FaultAt p er w) (o : Obj) : FaultAt p er (w.alloc o) := fault_below h ((Below.refl _ _).alloc (Nat.le_refl _) o)
theorem Z.alloc {S : ByteArray} {c : BitVec 256} {a : Nat} {w w1 : World} (h : Z S c a w w1) (o : Obj) : Z S c a w (w1.alloc o) := h.below ((Below.refl _ _).alloc (Nat.le_refl _) o)
theorem Z.sethi {S : ByteArray} {c : BitVec 256} {a : Nat} {w w1 : World} (h : Z S c a w w1) {p : Addr} (hp : w.heap.size + 1 + 1 < p.block) (v : Value) : Z S c a w (w1.setCell p v) :=
  ⟨(heap_setCell_other w1 p _ v (fun e => by omega)).trans h.res, (heap_setCell_other w1 p _ v (fun e => by omega)).trans h.cls, (heap_setCell_other w1 p _ v (fun e => by omega)).trans h.rd, h.bel.setCell (by omega) _⟩
theorem Z.cset {S : ByteArray} {c : BitVec 256} (d : BitVec 256) {a : Nat} {w w1 : World} (h : Z S c a w w1) : Z S d a w ((((w1.setCell ⟨w.heap.size + 1, 0, none⟩ (.int .u64 (wd d 0))).setCell ⟨w.heap.size + 1, 1, none⟩ (.int .u64 (wd d 1))).setCell ⟨w.heap.size + 1, 2, none⟩ (.int .u64 (wd d 2))).setCell ⟨w.heap.size + 1, 3, none⟩ (.int .u64 (wd d 3))) := by
  have o : ∀ (w2 : World) (k j : Nat) (v : Value), k ≠ w.heap.size + 1 → (w2.setCell ⟨w.heap.size + 1, j, none⟩ v).heap[k]? = w2.heap[k]? := fun w2 k j v hk => heap_setCell_other w2 ⟨w.heap.size + 1, j, none⟩ k v hk
  refine ⟨?_, set4p h.cls, ?_, (((h.bel.setCell (by simp) _).setCell (by simp) _).setCell (by simp) _).setCell (by simp) _⟩
  · rw [o _ _ _ _ (by omega), o _ _ _ _ (by omega), o _ _ _ _ (by omega), o _ _ _ _ (by omega)]; exact h.res
  · unfold RD; rw [o _ _ _ _ (by omega), o _ _ _ _ (by omega), o _ _ _ _ (by omega), o _ _ _ _ (by omega)]; exact h.rd
set_option maxRecDepth 100000 in
set_option maxHeartbeats 3200000 in
theorem par_m (S : ByteArray) (w : World) (hs : S.size ≤ 140737488355328) (hb : byteAt (bl S) 0 = 91) (hn : byteAt (bl S) 1 ≠ 94) :
    Calls Tryd.prog 32 #[.string S] w (ParP w (parsed (bl S))) := by
  have hlen := bl_length S
  have h0 := byteAt_in (s := bl S) (a := 0) (by omega)
  have P1 := Lib.hid (show pk [91] (byteAt (bl S) 0) = (0 : Nat) by rw [hb]; decide)
  have P2 := Lib.hid (show pk [94] (byteAt (bl S) 1) = -1 by have := pk_one 94 (by decide) _ (show byteAt (bl S) 1 < 257 by have := byteAt_le (bl S) 1; omega); rw [if_neg hn] at this; exact this)
  have HG := Lib.hid (show parsed (bl S) = doneP false (memsAt (bl S) ((bl S).length + 1) 1 0) by
    rw [parsed, if_pos hb, if_neg hn]
    cases memsAt (bl S) ((bl S).length + 1) 1 0 <;> rfl)
  clear hb hn
  have z0 := z_start S w
  generalize hM : memsAt (bl S) ((bl S).length + 1) 1 0 = G at HG
  have HM := Lib.hid hM
  clear hM
  go_enter Tryd.func32, Tryd.ntmps32
  repeat (first | go_values | go_skip | go_guarded | go_step | go_upon)
  refine (pick_yes (w.heap.size + 1 + 1) S 0 [91] 0 _ (rd_alloc3 _ _ _) hs P1.out).mono ?_
  rintro e w1 ⟨rfl, t1⟩
  have z1 := z0.rto t1
  dsimp only
  repeat (first | go_values | go_skip | go_guarded | go_step | go_upon)
  refine (pick_no (w.heap.size + 1 + 1) S 1 [94] _ z1.rd hs P2.out).mono ?_
  rintro e w2 ⟨rfl, t2⟩
  have z2 := z1.rto t2
  dsimp only
  repeat (first | go_values | go_skip | go_guarded | go_step | go_upon)
  go_loopw [24] (fun _ wr => ∃ (f a : Nat) (c : BitVec 256), Z S c a w wr ∧ Hid (memsAt (bl S) f a c = G) ∧ (bl S).length < f + a ∧ a ≤ S.size) (fun _ wr => S.size - (intOf ((wr.cell? ⟨w.heap.size + 1 + 1, 1, none⟩).getD undef)).toNat)
  case atStart => exact ⟨_, 1, 0, z2, HM, by omega, by omega⟩
  case round =>
    obtain ⟨f, a, c, z, hG, hf, ha⟩ := hrel
    obtain ⟨f, rfl⟩ : ∃ g, f = g + 1 := ⟨f - 1, by omega⟩
    have hle := byteAt_le (bl S) a
    by_cases h93 : byteAt (bl S) a = 93
    · have P3 := Lib.hid (show pk [93] (byteAt (bl S) a) = (0 : Nat) by rw [h93]; decide)
      have HX := Lib.hid (show G = .inr (c, a + 1) by rw [← hG.out, mems_one h93])
      clear h93
      repeat (first | go_values | go_skip | go_guarded | go_step | go_upon)
      refine (pick_yes (w.heap.size + 1 + 1) S a [93] 0 _ z.rd hs P3.out).mono ?_
      rintro e w3 ⟨rfl, t3⟩
      have z3 := z.rto t3
      obtain ⟨cB, fB, zB⟩ := cells_at z3.cls
      obtain ⟨cA, fA, zA⟩ := cells_at z3.res
      obtain ⟨r0, r1, fr⟩ := rd_cells z3.rd
      dsimp only
      repeat (first | go_values | go_skip | go_guarded | go_step | go_upon)
      go_region
      repeat (first | go_values | go_skip | go_guarded | go_step | go_upon)
      refine bodyPost_ret (v := .tuple #[.agg #[.int .u64 (wd c 0), .int .u64 (wd c 1), .int .u64 (wd c 2), .int .u64 (wd c 3)], .int .i64 ((a + 1 : Nat) : Int), .nilIface]) (by simp [results, Tryd.results32, go_sem, cA]) rfl ?_
      exact ParP.ok (HG.out.trans (by rw [HX.out]; rfl)) rfl (bel4 z3.bel _ _ _ _).drew
    · have P3 := Lib.hid (show pk [93] (byteAt (bl S) a) = -1 by have := pk_one 93 (by decide) _ (show byteAt (bl S) a < 257 by omega); rw [if_neg h93] at this; exact this)
      cases hm : memAt (bl S) a with
      | inl er =>
        have HX := Lib.hid (show G = .inl er by rw [← hG.out, mems_bad h93 hm])
        have HE := Lib.hid hm
        clear h93 hm
        repeat (first | go_values | go_skip | go_guarded | go_step | go_upon)
        refine (pick_no (w.heap.size + 1 + 1) S a [93] _ z.rd hs P3.out).mono ?_
        rintro e w3 ⟨rfl, t3⟩
        have z3 := z.rto t3
        dsimp only
        repeat (first | go_values | go_skip | go_guarded | go_step | go_upon)
        refine (rmem_no (w.heap.size + 1 + 1) S a _ z3.rd hs HE.out).mono ?_
        rintro e w4 ⟨⟨p, rfl, hp, hl⟩, n4, t4⟩
        have z4 := z3.rto t4
        obtain ⟨cA, fA, zA⟩ := cells_at z4.res
        have hp4 := (Array.getElem?_eq_some_iff.1 hp).1
        have hl4 := z3.lt
        have hl5 := z4.lt
        dsimp only [cls0]
        repeat (first | go_values | go_skip | go_guarded | go_step | go_upon)
        refine bodyPost_ret (v := .tuple #[cls0, .int .i64 0, .iface 90 (.pointer (some ⟨p, 0, none⟩))]) (by simp [cls0, results, Tryd.results32, go_sem, cA, zA]) rfl ?_
        refine ParP.no (HG.out.trans (by rw [HX.out]; rfl)) rfl ?_ (by omega) ?_
        · repeat (first | (with_reducible exact hp) | refine fault_set ?_ (by simp; omega) _ | refine fault_alloc ?_ _)
        · repeat (first | (with_reducible exact z4.bel) | refine RowKit.Below.setCell ?_ (by first | (with_reducible exact Nat.le_refl _) | (simp; omega)) _ | refine RowKit.Below.alloc ?_ (by first | (simp; done) | (simp; omega) | omega) _)
      | inr q =>
        obtain ⟨m, n⟩ := q
        have HX := Lib.hid (show memsAt (bl S) f n (c ||| m) = G by rw [← hG.out, mems_on h93 hm])
        have HE := Lib.hid hm
        have hbd := memAt_bd hm
        clear h93 hm
        repeat (first | go_values | go_skip | go_guarded | go_step | go_upon)
        refine (pick_no (w.heap.size + 1 + 1) S a [93] _ z.rd hs P3.out).mono ?_
        rintro e w3 ⟨rfl, t3⟩
        have z3 := z.rto t3
        dsimp only
        repeat (first | go_values | go_skip | go_guarded | go_step | go_upon)
        refine (rmem_ok (w.heap.size + 1 + 1) S a _ z3.rd hs HE.out).mono ?_
        rintro e w4 ⟨rfl, t4⟩
        have z4 := z3.rto t4
        obtain ⟨cA, fA, zA⟩ := cells_at z4.res
        obtain ⟨cB, fB, zB⟩ := cells_at z4.cls
        dsimp only
        repeat (first | go_values | go_skip | go_guarded | go_step | go_upon)
        refine (either_any _ _ _).mono ?_
        rintro e w5 ⟨rfl, hb5⟩
        have hl4 := z4.lt
        have z5 : Z S c n w w5 := by
          refine Z.below ?_ hb5
          repeat (first | (with_reducible exact z4) | refine Z.sethi ?_ (by simp; omega) _ | refine Z.alloc ?_ _)
        obtain ⟨cA5, fA5, zA5⟩ := cells_at z5.res
        obtain ⟨cB5, fB5, zB5⟩ := cells_at z5.cls
        dsimp only
        repeat (first | go_values | go_skip | go_guarded | go_step | go_upon)
        have z6 := Z.cset (c ||| m) z5
        refine ⟨⟨f, n, c ||| m, z6, HX, by omega, by omega⟩, ?_⟩
        rw [(rd_cells z6.rd).2.1, (rd_cells z.rd).2.1]
        simp [intOf]
        omega
end Go.Proofs.YtlohpplpnddfaaaDoor
namespace Go.Proofs.YtlohpplpnddfaaaDoor
open Go.RowKit Go.Sort

theorem not_as {c d : BitVec 256} (h : d = ~~~c) (w : World) : Calls Tryd.prog 30 #[.agg #[.int .u64 (wd c 0), .int .u64 (wd c 1), .int .u64 (wd c 2), .int .u64 (wd c 3)]] w (Ans (.agg #[.int .u64 (wd d 0), .int .u64 (wd d 1), .int .u64 (wd d 2), .int .u64 (wd d 3)]) w) := by subst h; exact not_any c w
set_option maxRecDepth 100000 in
set_option maxHeartbeats 3200000 in
theorem par_n (S : ByteArray) (w : World) (hs : S.size ≤ 140737488355328) (hb : byteAt (bl S) 0 = 91) (hn : byteAt (bl S) 1 = 94) :
    Calls Tryd.prog 32 #[.string S] w (ParP w (parsed (bl S))) := by
  have hlen := bl_length S
  have h0 := byteAt_in (s := bl S) (a := 0) (by omega)
  have P1 := Lib.hid (show pk [91] (byteAt (bl S) 0) = (0 : Nat) by rw [hb]; decide)
  have h1 := byteAt_in (s := bl S) (a := 1) (by omega)
  have P2 := Lib.hid (show pk [94] (byteAt (bl S) 1) = (0 : Nat) by rw [hn]; decide)
  have HG := Lib.hid (show parsed (bl S) = doneP true (memsAt (bl S) ((bl S).length + 1) 2 0) by
    rw [parsed, if_pos hb, if_pos hn]
    cases memsAt (bl S) ((bl S).length + 1) 2 0 <;> rfl)
  clear hb hn
  have z0 := z_start S w
  generalize hM : memsAt (bl S) ((bl S).length + 1) 2 0 = G at HG
  have HM := Lib.hid hM
  clear hM
  go_enter Tryd.func32, Tryd.ntmps32
  repeat (first | go_values | go_skip | go_guarded | go_step | go_upon)
  refine (pick_yes (w.heap.size + 1 + 1) S 0 [91] 0 _ (rd_alloc3 _ _ _) hs P1.out).mono ?_
  rintro e w1 ⟨rfl, t1⟩
  have z1 := z0.rto t1
  dsimp only
  repeat (first | go_values | go_skip | go_guarded | go_step | go_upon)
  refine (pick_yes (w.heap.size + 1 + 1) S 1 [94] 0 _ z1.rd hs P2.out).mono ?_
  rintro e w2 ⟨rfl, t2⟩
  have z2 := z1.rto t2
  dsimp only
  repeat (first | go_values | go_skip | go_guarded | go_step | go_upon)
  go_loopw [24] (fun _ wr => ∃ (f a : Nat) (c : BitVec 256), Z S c a w wr ∧ Hid (memsAt (bl S) f a c = G) ∧ (bl S).length < f + a ∧ a ≤ S.size) (fun _ wr => S.size - (intOf ((wr.cell? ⟨w.heap.size + 1 + 1, 1, none⟩).getD undef)).toNat)
  case atStart => exact ⟨_, 2, 0, z2, HM, by omega, by omega⟩
  case round =>
    obtain ⟨f, a, c, z, hG, hf, ha⟩ := hrel
    obtain ⟨f, rfl⟩ : ∃ g, f = g + 1 := ⟨f - 1, by omega⟩
    have hle := byteAt_le (bl S) a
    by_cases h93 : byteAt (bl S) a = 93
    · have P3 := Lib.hid (show pk [93] (byteAt (bl S) a) = (0 : Nat) by rw [h93]; decide)
      have HX := Lib.hid (show G = .inr (c, a + 1) by rw [← hG.out, mems_one h93])
      clear h93
      repeat (first | go_values | go_skip | go_guarded | go_step | go_upon)
      refine (pick_yes (w.heap.size + 1 + 1) S a [93] 0 _ z.rd hs P3.out).mono ?_
      rintro e w3 ⟨rfl, t3⟩
      have z3 := z.rto t3
      obtain ⟨cB, fB, zB⟩ := cells_at z3.cls
      obtain ⟨cA, fA, zA⟩ := cells_at z3.res
      obtain ⟨r0, r1, fr⟩ := rd_cells z3.rd
      dsimp only
      repeat (first | go_values | go_skip | go_guarded | go_step | go_upon)
      obtain ⟨d, hd⟩ : ∃ d, d = ~~~c := ⟨_, rfl⟩
      have HD := Lib.hid hd
      clear hd
      refine (not_as HD.out _).mono ?_
      rintro e w4 ⟨rfl, hb4⟩
      have z4 := z3.below hb4
      clear cA fA zA cB fB zB r0 r1 fr
      obtain ⟨cB, fB, zB⟩ := cells_at z4.cls
      obtain ⟨cA, fA, zA⟩ := cells_at z4.res
      obtain ⟨r0, r1, fr⟩ := rd_cells z4.rd
      dsimp only
      repeat (first | go_values | go_skip | go_guarded | go_step | go_upon)
      go_region
      repeat (first | go_values | go_skip | go_guarded | go_step | go_upon)
      refine bodyPost_ret (v := .tuple #[.agg #[.int .u64 (wd d 0), .int .u64 (wd d 1), .int .u64 (wd d 2), .int .u64 (wd d 3)], .int .i64 ((a + 1 : Nat) : Int), .nilIface]) (by simp [results, Tryd.results32, go_sem, cA]) rfl ?_
      exact ParP.ok (HG.out.trans (by rw [HX.out, HD.out]; rfl)) rfl (bel4 (Z.cset d z4).bel _ _ _ _).drew
    · have P3 := Lib.hid (show pk [93] (byteAt (bl S) a) = -1 by have := pk_one 93 (by decide) _ (show byteAt (bl S) a < 257 by omega); rw [if_neg h93] at this; exact this)
      cases hm : memAt (bl S) a with
      | inl er =>
        have HX := Lib.hid (show G = .inl er by rw [← hG.out, mems_bad h93 hm])
        have HE := Lib.hid hm
        clear h93 hm
        repeat (first | go_values | go_skip | go_guarded | go_step | go_upon)
        refine (pick_no (w.heap.size + 1 + 1) S a [93] _ z.rd hs P3.out).mono ?_
        rintro e w3 ⟨rfl, t3⟩
        have z3 := z.rto t3
        dsimp only
        repeat (first | go_values | go_skip | go_guarded | go_step | go_upon)
        refine (rmem_no (w.heap.size + 1 + 1) S a _ z3.rd hs HE.out).mono ?_
        rintro e w4 ⟨⟨p, rfl, hp, hl⟩, n4, t4⟩
        have z4 := z3.rto t4
        obtain ⟨cA, fA, zA⟩ := cells_at z4.res
        have hp4 := (Array.getElem?_eq_some_iff.1 hp).1
        have hl4 := z3.lt
        have hl5 := z4.lt
        dsimp only [cls0]
        repeat (first | go_values | go_skip | go_guarded | go_step | go_upon)
        refine bodyPost_ret (v := .tuple #[cls0, .int .i64 0, .iface 90 (.pointer (some ⟨p, 0, none⟩))]) (by simp [cls0, results, Tryd.results32, go_sem, cA, zA]) rfl ?_
        refine ParP.no (HG.out.trans (by rw [HX.out]; rfl)) rfl ?_ (by omega) ?_
        · repeat (first | (with_reducible exact hp) | refine fault_set ?_ (by simp; omega) _ | refine fault_alloc ?_ _)
        · repeat (first | (with_reducible exact z4.bel) | refine RowKit.Below.setCell ?_ (by first | (with_reducible exact Nat.le_refl _) | (simp; omega)) _ | refine RowKit.Below.alloc ?_ (by first | (simp; done) | (simp; omega) | omega) _)
      | inr q =>
        obtain ⟨m, n⟩ := q
        have HX := Lib.hid (show memsAt (bl S) f n (c ||| m) = G by rw [← hG.out, mems_on h93 hm])
        have HE := Lib.hid hm
        have hbd := memAt_bd hm
        clear h93 hm
        repeat (first | go_values | go_skip | go_guarded | go_step | go_upon)
        refine (pick_no (w.heap.size + 1 + 1) S a [93] _ z.rd hs P3.out).mono ?_
        rintro e w3 ⟨rfl, t3⟩
        have z3 := z.rto t3
        dsimp only
        repeat (first | go_values | go_skip | go_guarded | go_step | go_upon)
        refine (rmem_ok (w.heap.size + 1 + 1) S a _ z3.rd hs HE.out).mono ?_
        rintro e w4 ⟨rfl, t4⟩
        have z4 := z3.rto t4
        obtain ⟨cA, fA, zA⟩ := cells_at z4.res
        obtain ⟨cB, fB, zB⟩ := cells_at z4.cls
        dsimp only
        repeat (first | go_values | go_skip | go_guarded | go_step | go_upon)
        refine (either_any _ _ _).mono ?_
        rintro e w5 ⟨rfl, hb5⟩
        have hl4 := z4.lt
        have z5 : Z S c n w w5 := by
          refine Z.below ?_ hb5
          repeat (first | (with_reducible exact z4) | refine Z.sethi ?_ (by simp; omega) _ | refine Z.alloc ?_ _)
        obtain ⟨cA5, fA5, zA5⟩ := cells_at z5.res
        obtain ⟨cB5, fB5, zB5⟩ := cells_at z5.cls
        dsimp only
        repeat (first | go_values | go_skip | go_guarded | go_step | go_upon)
        have z6 := Z.cset (c ||| m) z5
        refine ⟨⟨f, n, c ||| m, z6, HX, by omega, by omega⟩, ?_⟩
        rw [(rd_cells z6.rd).2.1, (rd_cells z.rd).2.1]
        simp [intOf]
        omega
theorem parse_any (S : ByteArray) (w : World) (hs : S.size ≤ 140737488355328) : Calls Tryd.prog 32 #[.string S] w (ParP w (parsed (bl S))) := by
  by_cases hb : byteAt (bl S) 0 = 91
  · by_cases hn : byteAt (bl S) 1 = 94
    · exact par_n S w hs hb hn
    · exact par_m S w hs hb hn
  · exact par_0 S w hs hb
theorem parse_ok (S : ByteArray) (w : World) (hs : S.size ≤ 140737488355328) {c : BitVec 256} {n : Nat} (hg : parsed (bl S) = .inr (c, n)) :
    Calls Tryd.prog 32 #[.string S] w (fun e w' => e = .returned (.tuple #[.agg #[.int .u64 (wd c 0), .int .u64 (wd c 1), .int .u64 (wd c 2), .int .u64 (wd c 3)], .int .i64 (n : Int), .nilIface]) ∧ Below w.heap.size w w') := by
  have := parse_any S w hs
  rw [hg] at this
  exact this
theorem parse_no (S : ByteArray) (w : World) (hs : S.size ≤ 140737488355328) {er : Nat × Nat} (hg : parsed (bl S) = .inl er) :
    Calls Tryd.prog 32 #[.string S] w (fun e w' => AnsFault er w (fun v => .tuple #[cls0, .int .i64 0, v]) e w' ∧ Below w.heap.size w w') := by
  have := parse_any S w hs
  rw [hg] at this
  exact this
end Go.Proofs.YtlohpplpnddfaaaDoor
namespace Go.Proofs.YtlohpplpnddfaaaDoor
open Go.RowKit Go.Extern.Stop Go.Stop Go.Extern

/-! ### Closed facts on the entries for internal/reflectlite: the targets *api.Errno and **api.Fault -/
theorem valueOfP (t : Addr) (w : World) : (ReflectliteValue.unpack (.iface 78 (.pointer (some t)))).run Tryd.prog w
    = .ok (.agg #[.pointer (some ⟨2, 78, none⟩), .pointer (some ⟨w.heap.size, 0, none⟩), .int .u64 150]) (w.alloc (.cells #[.pointer (some t)] 78)) := by kernel_rfl
theorem valueOfQ (t : Addr) (w : World) : (ReflectliteValue.unpack (.iface 91 (.pointer (some t)))).run Tryd.prog w
    = .ok (.agg #[.pointer (some ⟨2, 91, none⟩), .pointer (some ⟨w.heap.size, 0, none⟩), .int .u64 150]) (w.alloc (.cells #[.pointer (some t)] 91)) := by kernel_rfl
theorem typeP (a : Addr) (w : World) : (ReflectliteValue.methodAny (ReflectliteValue.valueError "reflectlite.Value.Type" 0) (fun t _ _ _ => ReflectliteType.toType t) #[.agg #[.pointer (some ⟨2, 78, none⟩), .pointer (some a), .int .u64 150]]).run Tryd.prog w
    = .ok (.iface 143 (.agg #[.pointer (some ⟨2, 78, none⟩)])) w := by kernel_rfl
theorem typeQ (a : Addr) (w : World) : (ReflectliteValue.methodAny (ReflectliteValue.valueError "reflectlite.Value.Type" 0) (fun t _ _ _ => ReflectliteType.toType t) #[.agg #[.pointer (some ⟨2, 91, none⟩), .pointer (some a), .int .u64 150]]).run Tryd.prog w
    = .ok (.iface 143 (.agg #[.pointer (some ⟨2, 91, none⟩)])) w := by kernel_rfl
theorem methodKind (h : Value) (w : World) : (Go.method 293 143 (.agg #[h]) "Kind").run Tryd.prog w = .ok (130, h) w := by kernel_rfl
theorem methodElem (h : Value) (w : World) : (Go.method 293 143 (.agg #[h]) "Elem").run Tryd.prog w = .ok (143, .agg #[h]) w := by kernel_rfl
theorem methodImplements (h : Value) (w : World) : (Go.method 293 143 (.agg #[h]) "Implements").run Tryd.prog w = .ok (144, .agg #[h]) w := by kernel_rfl
theorem methodAssignableTo (h : Value) (w : World) : (Go.method 293 143 (.agg #[h]) "AssignableTo").run Tryd.prog w = .ok (141, .agg #[h]) w := by kernel_rfl
theorem kindP (w : World) : ((ReflectliteType.abiMethod fun t => (fun a : Nat => Value.int IntKind.u8 (a : Int)) <$> Rtype.kind t) #[.pointer (some ⟨2, 78, none⟩)]).run Tryd.prog w = .ok (.int .u8 22) w := by kernel_rfl
theorem kindQ (w : World) : ((ReflectliteType.abiMethod fun t => (fun a : Nat => Value.int IntKind.u8 (a : Int)) <$> Rtype.kind t) #[.pointer (some ⟨2, 91, none⟩)]).run Tryd.prog w = .ok (.int .u8 22) w := by kernel_rfl
theorem kindE (w : World) : ((ReflectliteType.abiMethod fun t => (fun a : Nat => Value.int IntKind.u8 (a : Int)) <$> Rtype.kind t) #[.pointer (some ⟨2, 29, none⟩)]).run Tryd.prog w = .ok (.int .u8 2) w := by kernel_rfl
theorem kindF (w : World) : ((ReflectliteType.abiMethod fun t => (fun a : Nat => Value.int IntKind.u8 (a : Int)) <$> Rtype.kind t) #[.pointer (some ⟨2, 90, none⟩)]).run Tryd.prog w = .ok (.int .u8 22) w := by kernel_rfl
theorem rlm (z : Sem Value) (f : TypeId → Addr → Nat → Nat → Sem Value) (v : Value) :
    ReflectliteValue.method z f #[v] = (do match ← ReflectliteValue.parts v with | none => z | some (t, a, fl) => f t a fl (fl % 32)) := rfl
theorem partsP (a : Addr) (w : World) : (ReflectliteValue.parts (.agg #[.pointer (some ⟨2, 78, none⟩), .pointer (some a), .int .u64 150])).run Tryd.prog w = .ok (some (78, a, 150)) w := by kernel_rfl
theorem partsQ (a : Addr) (w : World) : (ReflectliteValue.parts (.agg #[.pointer (some ⟨2, 91, none⟩), .pointer (some a), .int .u64 150])).run Tryd.prog w = .ok (some (91, a, 150)) w := by kernel_rfl
theorem isNilP (a p : Addr) (W : World) (ha : W.cell? a = some (.pointer (some p))) :
    (ReflectliteValue.method (ReflectliteValue.valueError "reflectlite.Value.IsNil" 0) ReflectliteValue.isNil #[.agg #[.pointer (some ⟨2, 78, none⟩), .pointer (some a), .int .u64 150]]).run Tryd.prog W = .ok (.bool false) W := by
  rw [rlm]
  simp only [Sem.run_bind, partsP, Result.andThen]
  simp [ReflectliteValue.isNil, loadVar, isAgg, underlying, Tryd.underlying78, ha, Result.andThen]
theorem isNilQ (a p : Addr) (W : World) (ha : W.cell? a = some (.pointer (some p))) :
    (ReflectliteValue.method (ReflectliteValue.valueError "reflectlite.Value.IsNil" 0) ReflectliteValue.isNil #[.agg #[.pointer (some ⟨2, 91, none⟩), .pointer (some a), .int .u64 150]]).run Tryd.prog W = .ok (.bool false) W := by
  rw [rlm]
  simp only [Sem.run_bind, partsQ, Result.andThen]
  simp [ReflectliteValue.isNil, loadVar, isAgg, underlying, Tryd.underlying91, ha, Result.andThen]
theorem elemP (w : World) : (ReflectliteType.method ReflectliteType.elem #[.agg #[.pointer (some ⟨2, 78, none⟩)]]).run Tryd.prog w = .ok (.iface 143 (.agg #[.pointer (some ⟨2, 29, none⟩)])) w := by kernel_rfl
theorem elemQ (w : World) : (ReflectliteType.method ReflectliteType.elem #[.agg #[.pointer (some ⟨2, 91, none⟩)]]).run Tryd.prog w = .ok (.iface 143 (.agg #[.pointer (some ⟨2, 90, none⟩)])) w := by kernel_rfl
theorem implementsE (w : World) : (ReflectliteType.relation "Implements" ReflectliteType.implements_ #[.agg #[.pointer (some ⟨2, 29, none⟩)], .iface 143 (.agg #[.pointer (some ⟨2, 26, none⟩)])]).run Tryd.prog w = .ok (.bool true) w := by kernel_rfl
theorem implementsF (w : World) : (ReflectliteType.relation "Implements" ReflectliteType.implements_ #[.agg #[.pointer (some ⟨2, 90, none⟩)], .iface 143 (.agg #[.pointer (some ⟨2, 26, none⟩)])]).run Tryd.prog w = .ok (.bool true) w := by kernel_rfl
theorem typeOfE (v : Value) (w : World) : (ReflectliteType.typeOf #[.iface 29 v]).run Tryd.prog w = .ok (.iface 143 (.agg #[.pointer (some ⟨2, 29, none⟩)])) w := by kernel_rfl
theorem typeOfF (v : Value) (w : World) : (ReflectliteType.typeOf #[.iface 90 v]).run Tryd.prog w = .ok (.iface 143 (.agg #[.pointer (some ⟨2, 90, none⟩)])) w := by kernel_rfl
theorem assignableEE (w : World) : (ReflectliteType.relation "AssignableTo" ReflectliteType.assignableTo #[.agg #[.pointer (some ⟨2, 29, none⟩)], .iface 143 (.agg #[.pointer (some ⟨2, 29, none⟩)])]).run Tryd.prog w = .ok (.bool true) w := by kernel_rfl
theorem assignableFF (w : World) : (ReflectliteType.relation "AssignableTo" ReflectliteType.assignableTo #[.agg #[.pointer (some ⟨2, 90, none⟩)], .iface 143 (.agg #[.pointer (some ⟨2, 90, none⟩)])]).run Tryd.prog w = .ok (.bool true) w := by kernel_rfl
theorem assignableFE (w : World) : (ReflectliteType.relation "AssignableTo" ReflectliteType.assignableTo #[.agg #[.pointer (some ⟨2, 90, none⟩)], .iface 143 (.agg #[.pointer (some ⟨2, 29, none⟩)])]).run Tryd.prog w = .ok (.bool false) w := by kernel_rfl
theorem assignableEF (w : World) : (ReflectliteType.relation "AssignableTo" ReflectliteType.assignableTo #[.agg #[.pointer (some ⟨2, 29, none⟩)], .iface 143 (.agg #[.pointer (some ⟨2, 90, none⟩)])]).run Tryd.prog w = .ok (.bool false) w := by kernel_rfl
theorem valueOfE (n : Int) (w : World) : (ReflectliteValue.unpack (.iface 29 (.int .i64 n))).run Tryd.prog w
    = .ok (.agg #[.pointer (some ⟨2, 29, none⟩), .pointer (some ⟨w.heap.size, 0, none⟩), .int .u64 130]) (w.alloc (.cells #[.int .i64 n] 29)) := by kernel_rfl
theorem valueOfF (e : Addr) (w : World) : (ReflectliteValue.unpack (.iface 90 (.pointer (some e)))).run Tryd.prog w
    = .ok (.agg #[.pointer (some ⟨2, 90, none⟩), .pointer (some ⟨w.heap.size, 0, none⟩), .int .u64 150]) (w.alloc (.cells #[.pointer (some e)] 90)) := by kernel_rfl
theorem elemOfP (w : World) : (Rtype.elem? 78).run Tryd.prog w = .ok (some 29) w := by kernel_rfl
theorem elemOfQ (w : World) : (Rtype.elem? 91).run Tryd.prog w = .ok (some 90) w := by kernel_rfl
theorem mkE (p : Addr) (w : World) : (ReflectliteValue.mk 29 p ReflectliteValue.flagAddr).run Tryd.prog w = .ok (.agg #[.pointer (some ⟨2, 29, none⟩), .pointer (some p), .int .u64 386]) w := by kernel_rfl
theorem mkF (p : Addr) (w : World) : (ReflectliteValue.mk 90 p ReflectliteValue.flagAddr).run Tryd.prog w = .ok (.agg #[.pointer (some ⟨2, 90, none⟩), .pointer (some p), .int .u64 406]) w := by kernel_rfl
theorem elemVP (a p : Addr) (W : World) (ha : W.cell? a = some (.pointer (some p))) :
    (ReflectliteValue.method (ReflectliteValue.valueError "reflectlite.Value.Elem" 0) ReflectliteValue.elem #[.agg #[.pointer (some ⟨2, 78, none⟩), .pointer (some a), .int .u64 150]]).run Tryd.prog W
      = .ok (.agg #[.pointer (some ⟨2, 29, none⟩), .pointer (some p), .int .u64 386]) W := by
  rw [rlm]
  simp only [Sem.run_bind, partsP, Result.andThen]
  simp [ReflectliteValue.elem, loadVar, isAgg, underlying, Tryd.underlying78, ha, Result.andThen, elemOfP, mkE]
theorem elemVQ (a p : Addr) (W : World) (ha : W.cell? a = some (.pointer (some p))) :
    (ReflectliteValue.method (ReflectliteValue.valueError "reflectlite.Value.Elem" 0) ReflectliteValue.elem #[.agg #[.pointer (some ⟨2, 91, none⟩), .pointer (some a), .int .u64 150]]).run Tryd.prog W
      = .ok (.agg #[.pointer (some ⟨2, 90, none⟩), .pointer (some p), .int .u64 406]) W := by
  rw [rlm]
  simp only [Sem.run_bind, partsQ, Result.andThen]
  simp [ReflectliteValue.elem, loadVar, isAgg, underlying, Tryd.underlying91, ha, Result.andThen, elemOfQ, mkF]
theorem rls (v x : Value) : ReflectliteValue.set #[v, x] = (do
    let (some (dst, a, fl), some (src, b, _)) := (← ReflectliteValue.parts v, ← ReflectliteValue.parts x)
      | unsupported (.noEntry "extern/(internal/reflectlite.Value).Set.zeroValue")
    if fl / ReflectliteValue.flagAddr % 2 == 0 then unsupported (.noEntry "extern/(internal/reflectlite.Value).Set.unaddressable")
    let val ← loadVar src b
    if ← Rtype.directlyAssignable dst src then storeVar dst a val
    else if ← Rtype.implements dst src then
      if (← Rtype.kind src) == 20 then
        match val with
        | .nilIface => unsupported (.noEntry "extern/reflectlite: a nil value of one interface type handed on as a value of another")
        | _ => storeVar dst a val
      else storeVar dst a (.iface src val)
    else panicString ("reflectlite.Set: value of type " ++ (← Rtype.spelt src) ++ " is not assignable to type " ++ (← Rtype.spelt dst))
    pure (.tuple #[])) := rfl
theorem partsEa (a : Addr) (w : World) : (ReflectliteValue.parts (.agg #[.pointer (some ⟨2, 29, none⟩), .pointer (some a), .int .u64 386])).run Tryd.prog w = .ok (some (29, a, 386)) w := by kernel_rfl
theorem partsE (a : Addr) (w : World) : (ReflectliteValue.parts (.agg #[.pointer (some ⟨2, 29, none⟩), .pointer (some a), .int .u64 130])).run Tryd.prog w = .ok (some (29, a, 130)) w := by kernel_rfl
theorem partsFa (a : Addr) (w : World) : (ReflectliteValue.parts (.agg #[.pointer (some ⟨2, 90, none⟩), .pointer (some a), .int .u64 406])).run Tryd.prog w = .ok (some (90, a, 406)) w := by kernel_rfl
theorem partsF (a : Addr) (w : World) : (ReflectliteValue.parts (.agg #[.pointer (some ⟨2, 90, none⟩), .pointer (some a), .int .u64 150])).run Tryd.prog w = .ok (some (90, a, 150)) w := by kernel_rfl
theorem directE (w : World) : (Rtype.directlyAssignable 29 29).run Tryd.prog w = .ok true w := by kernel_rfl
theorem directF (w : World) : (Rtype.directlyAssignable 90 90).run Tryd.prog w = .ok true w := by kernel_rfl
theorem setE (ta b : Addr) (n : Int) (old : Value) (W : World) (hb : W.cell? b = some (.int .i64 n)) (ht : W.cell? ta = some old) (hf : W.frozen? ta = false) :
    (ReflectliteValue.set #[.agg #[.pointer (some ⟨2, 29, none⟩), .pointer (some ta), .int .u64 386], .agg #[.pointer (some ⟨2, 29, none⟩), .pointer (some b), .int .u64 130]]).run Tryd.prog W
      = .ok (.tuple #[]) (W.setCell ta (.int .i64 n)) := by
  rw [rls]
  simp only [Sem.run_bind, partsEa, partsE, Result.andThen]
  simp [ReflectliteValue.flagAddr, loadVar, isAgg, underlying, Tryd.underlying29, hb, Result.andThen, directE, storeVar, Value.cells, storeCells, Addr.add]
  rw [run_store Tryd.prog W ta _ _ (by rfl)]
  simp [ht, hf]
theorem setF (ta b e : Addr) (old : Value) (W : World) (hb : W.cell? b = some (.pointer (some e))) (ht : W.cell? ta = some old) (hf : W.frozen? ta = false) :
    (ReflectliteValue.set #[.agg #[.pointer (some ⟨2, 90, none⟩), .pointer (some ta), .int .u64 406], .agg #[.pointer (some ⟨2, 90, none⟩), .pointer (some b), .int .u64 150]]).run Tryd.prog W
      = .ok (.tuple #[]) (W.setCell ta (.pointer (some e))) := by
  rw [rls]
  simp only [Sem.run_bind, partsFa, partsF, Result.andThen]
  simp [ReflectliteValue.flagAddr, loadVar, isAgg, underlying, Tryd.underlying90, hb, Result.andThen, directF, storeVar, Value.cells, storeCells, Addr.add]
  rw [run_store Tryd.prog W ta _ _ (by rfl)]
  simp [ht, hf]
theorem noAsE (v : Value) (xT : TypeId) (w : World) : (Instr.typeAssert (.iface 29 v) xT 148 true).run Tryd.prog w = .ok (.tuple #[.nilIface, .bool false]) w := run_typeAssert_lacksB Tryd.underlying148 (by kernel_rfl) (by kernel_rfl) v xT w
theorem noAsF (v : Value) (xT : TypeId) (w : World) : (Instr.typeAssert (.iface 90 v) xT 148 true).run Tryd.prog w = .ok (.tuple #[.nilIface, .bool false]) w := run_typeAssert_lacksB Tryd.underlying148 (by kernel_rfl) (by kernel_rfl) v xT w
theorem noUnE (v : Value) (xT : TypeId) (w : World) : (Instr.typeAssert (.iface 29 v) xT 151 true).run Tryd.prog w = .ok (.tuple #[.nilIface, .bool false]) w := run_typeAssert_lacksB Tryd.underlying151 (by kernel_rfl) (by kernel_rfl) v xT w
theorem noUUE (v : Value) (xT : TypeId) (w : World) : (Instr.typeAssert (.iface 29 v) xT 152 true).run Tryd.prog w = .ok (.tuple #[.nilIface, .bool false]) w := run_typeAssert_lacksB Tryd.underlying152 (by kernel_rfl) (by kernel_rfl) v xT w
theorem isUnF (v : Value) (xT : TypeId) (w : World) : (Instr.typeAssert (.iface 90 v) xT 151 true).run Tryd.prog w = .ok (.tuple #[.iface 90 v, .bool true]) w := run_typeAssert_hasB Tryd.underlying151 (by kernel_rfl) v xT w
theorem methodUnwrap (a : Option Addr) (w : World) : (Go.method 293 90 (.pointer a) "Unwrap").run Tryd.prog w = .ok (135, .pointer a) w := by kernel_rfl
end Go.Proofs.YtlohpplpnddfaaaDoor
namespace Go.Proofs.YtlohpplpnddfaaaDoor
open Go.RowKit Go.Sort Go.Extern.Stop Go.Stop Go.Extern

/-- What errors.errorType holds. -/
def Laid (w : World) : Prop := w.cell? ⟨0, 0, none⟩ = some (.iface 143 (.agg #[.pointer (some ⟨2, 26, none⟩)]))
theorem Laid.pos {w : World} (h : Laid w) : 0 < w.heap.size := World.block_lt_of_cell? w _ h
theorem Laid.below {w w' : World} {B : Nat} (h : Laid w) (hb : Below B w w') (hB : 0 < B) : Laid w' := (hb.cell hB).trans h

set_option maxRecDepth 100000 in
set_option maxHeartbeats 4000000 in
theorem as_P (T : TypeId) (v : Value) (tb : Nat) (old : Value) (w : World) (R : Bool → World → Prop) (hg : Laid w) (_ : w.cell? ⟨tb, 0, none⟩ = some old)
    (H : ∀ w2 vb, Below w.heap.size w w2 → w2.cell? ⟨vb, 0, none⟩ = some (.pointer (some ⟨tb, 0, none⟩)) → Calls Tryd.prog 78 #[.iface T v, .iface 78 (.pointer (some ⟨tb, 0, none⟩)), .agg #[.pointer (some ⟨2, 78, none⟩), .pointer (some ⟨vb, 0, none⟩), .int .u64 150], .iface 143 (.agg #[.pointer (some ⟨2, 29, none⟩)])] w2 fun ev w' => ∃ b, ev = .returned (.bool b) ∧ R b w') :
    Calls Tryd.prog 50 #[.iface T v, .iface 78 (.pointer (some ⟨tb, 0, none⟩))] w fun ev w' => ∃ b, ev = .returned (.bool b) ∧ R b w' := by
  have h75 := @run_callFunc_extern Tryd.prog 75 _ (fun args => ReflectliteValue.unpack (args.getD 0 (.tuple #[]))) Tryd.func75 (by kernel_rfl) (by kernel_rfl) (by kernel_rfl) (by kernel_rfl)
  have hKd := @run_callFunc_extern Tryd.prog 130 _ (ReflectliteType.abiMethod fun t => do pure (.int .u8 (← Rtype.kind t))) Tryd.func130 (by kernel_rfl) (by kernel_rfl) (by kernel_rfl) (by kernel_rfl)
  have h76 := @run_callFunc_extern Tryd.prog 76 _ (ReflectliteValue.methodAny (ReflectliteValue.valueError "reflectlite.Value.Type" 0) (fun t _ _ _ => ReflectliteType.toType t)) Tryd.func76 (by kernel_rfl) (by kernel_rfl) (by kernel_rfl) (by kernel_rfl)
  have h77 := @run_callFunc_extern Tryd.prog 77 _ (ReflectliteValue.method (ReflectliteValue.valueError "reflectlite.Value.IsNil" 0) ReflectliteValue.isNil) Tryd.func77 (by kernel_rfl) (by kernel_rfl) (by kernel_rfl) (by kernel_rfl)
  have hEl := @run_callFunc_extern Tryd.prog 143 _ (ReflectliteType.method ReflectliteType.elem) Tryd.func143 (by kernel_rfl) (by kernel_rfl) (by kernel_rfl) (by kernel_rfl)
  have hIm := @run_callFunc_extern Tryd.prog 144 _ (ReflectliteType.relation "Implements" ReflectliteType.implements_) Tryd.func144 (by kernel_rfl) (by kernel_rfl) (by kernel_rfl) (by kernel_rfl)
  have f1 := valueOfP
  have f2 := typeP
  have f3 := methodKind
  have f4 := methodElem
  have f5 := methodImplements
  have f7 := kindP
  have f8 := kindE
  have f9 := elemP
  have g1 := implementsE
  have hlt := hg.pos
  have hgc : w.cell? ⟨0, 0, none⟩ = some (.iface 143 (.agg #[.pointer (some ⟨2, 26, none⟩)])) := hg
  have n8 := isNilP ⟨w.heap.size, 0, none⟩ ⟨tb, 0, none⟩
  have HH := Lib.hid H
  clear H
  go_enter Tryd.func50, Tryd.ntmps50
  repeat (first | go_values | go_skip | go_guarded | go_step | go_upon)
  refine (HH.out _ _ (by repeat (first | exact Below.refl _ _ | assumption | refine bal ?_ _ | refine bdr ?_ | refine bdrn ?_ _ | (refine bset ?_ (by first | exact Nat.le_refl _ | (simp; done) | (simp; omega) | omega) _) | refine bstep ?_ (by assumption))) (by simp)).mono ?_
  rintro e w2 ⟨b, rfl, hR⟩
  have HR := Lib.hid hR
  clear hR
  dsimp only
  repeat (first | go_values | go_skip | go_guarded | go_step | go_upon)
  go_ret
  exact ⟨_, rfl, HR.out⟩

set_option maxRecDepth 100000 in
set_option maxHeartbeats 4000000 in
theorem as_Q (T : TypeId) (v : Value) (tb : Nat) (old : Value) (w : World) (R : Bool → World → Prop) (hg : Laid w) (_ : w.cell? ⟨tb, 0, none⟩ = some old)
    (H : ∀ w2 vb, Below w.heap.size w w2 → w2.cell? ⟨vb, 0, none⟩ = some (.pointer (some ⟨tb, 0, none⟩)) → Calls Tryd.prog 78 #[.iface T v, .iface 91 (.pointer (some ⟨tb, 0, none⟩)), .agg #[.pointer (some ⟨2, 91, none⟩), .pointer (some ⟨vb, 0, none⟩), .int .u64 150], .iface 143 (.agg #[.pointer (some ⟨2, 90, none⟩)])] w2 fun ev w' => ∃ b, ev = .returned (.bool b) ∧ R b w') :
    Calls Tryd.prog 50 #[.iface T v, .iface 91 (.pointer (some ⟨tb, 0, none⟩))] w fun ev w' => ∃ b, ev = .returned (.bool b) ∧ R b w' := by
  have h75 := @run_callFunc_extern Tryd.prog 75 _ (fun args => ReflectliteValue.unpack (args.getD 0 (.tuple #[]))) Tryd.func75 (by kernel_rfl) (by kernel_rfl) (by kernel_rfl) (by kernel_rfl)
  have hKd := @run_callFunc_extern Tryd.prog 130 _ (ReflectliteType.abiMethod fun t => do pure (.int .u8 (← Rtype.kind t))) Tryd.func130 (by kernel_rfl) (by kernel_rfl) (by kernel_rfl) (by kernel_rfl)
  have h76 := @run_callFunc_extern Tryd.prog 76 _ (ReflectliteValue.methodAny (ReflectliteValue.valueError "reflectlite.Value.Type" 0) (fun t _ _ _ => ReflectliteType.toType t)) Tryd.func76 (by kernel_rfl) (by kernel_rfl) (by kernel_rfl) (by kernel_rfl)
  have h77 := @run_callFunc_extern Tryd.prog 77 _ (ReflectliteValue.method (ReflectliteValue.valueError "reflectlite.Value.IsNil" 0) ReflectliteValue.isNil) Tryd.func77 (by kernel_rfl) (by kernel_rfl) (by kernel_rfl) (by kernel_rfl)
  have hEl := @run_callFunc_extern Tryd.prog 143 _ (ReflectliteType.method ReflectliteType.elem) Tryd.func143 (by kernel_rfl) (by kernel_rfl) (by kernel_rfl) (by kernel_rfl)
  have hIm := @run_callFunc_extern Tryd.prog 144 _ (ReflectliteType.relation "Implements" ReflectliteType.implements_) Tryd.func144 (by kernel_rfl) (by kernel_rfl) (by kernel_rfl) (by kernel_rfl)
  have f1 := valueOfQ
  have f2 := typeQ
  have f3 := methodKind
  have f4 := methodElem
  have f5 := methodImplements
  have f7 := kindQ
  have f8 := kindF
  have f9 := elemQ
  have g1 := implementsF
  have hlt := hg.pos
  have hgc : w.cell? ⟨0, 0, none⟩ = some (.iface 143 (.agg #[.pointer (some ⟨2, 26, none⟩)])) := hg
  have n8 := isNilQ ⟨w.heap.size, 0, none⟩ ⟨tb, 0, none⟩
  have HH := Lib.hid H
  clear H
  go_enter Tryd.func50, Tryd.ntmps50
  repeat (first | go_values | go_skip | go_guarded | go_step | go_upon)
  refine (HH.out _ _ (by repeat (first | exact Below.refl _ _ | assumption | refine bal ?_ _ | refine bdr ?_ | refine bdrn ?_ _ | (refine bset ?_ (by first | exact Nat.le_refl _ | (simp; done) | (simp; omega) | omega) _) | refine bstep ?_ (by assumption))) (by simp)).mono ?_
  rintro e w2 ⟨b, rfl, hR⟩
  have HR := Lib.hid hR
  clear hR
  dsimp only
  repeat (first | go_values | go_skip | go_guarded | go_step | go_upon)
  go_ret
  exact ⟨_, rfl, HR.out⟩

theorem gset (w : World) (tb : Nat) (v : Value) : w.grownBy (w.setCell ⟨tb, 0, none⟩ v) (some tb) := ⟨rfl, rfl, rfl, by simp, fun k _ hk => heap_setCell_other w ⟨tb, 0, none⟩ k v (fun e => hk (by simp [e]))⟩
theorem galloc {w w1 : World} {row : Option Nat} (h : w.grownBy w1 row) (o : Obj) : w.grownBy (w1.alloc o) row :=
  ⟨h.os, h.tape, h.output, Nat.le_trans h.size (by simp), fun k hk hr => (RowKit.Below.heap_alloc w1 o k (Nat.lt_of_lt_of_le hk h.size)).trans (h.block k hk hr)⟩
set_option maxHeartbeats 400000 in
theorem unwrap_any (p : Nat) (n : Int) (w : World) (h : w.cell? ⟨p, 0, none⟩ = some (.int .i64 n)) : Calls Tryd.prog 135 #[.pointer (some ⟨p, 0, none⟩)] w fun e w' => e = .returned (.iface 29 (.int .i64 n)) ∧ w = w' := by
  go_enter Tryd.func135, Tryd.ntmps135
  repeat (first | go_values | go_skip | go_guarded | go_step | go_upon)
  go_ret
  exact ⟨rfl, rfl⟩

set_option maxRecDepth 100000 in
set_option maxHeartbeats 4000000 in
theorem as2_EE (n : Int) (tb vb : Nat) (old : Value) (w : World) (ht0 : w.cell? ⟨tb, 0, none⟩ = some old) (hf0 : w.frozen? ⟨tb, 0, none⟩ = false) (hv : w.cell? ⟨vb, 0, none⟩ = some (.pointer (some ⟨tb, 0, none⟩))) :
    Calls Tryd.prog 78 #[.iface 29 (.int .i64 n), .iface 78 (.pointer (some ⟨tb, 0, none⟩)), .agg #[.pointer (some ⟨2, 78, none⟩), .pointer (some ⟨vb, 0, none⟩), .int .u64 150], .iface 143 (.agg #[.pointer (some ⟨2, 29, none⟩)])] w fun ev w' => ∃ b, ev = .returned (.bool b) ∧ b = true ∧ w.grownBy w' (some tb) ∧ w'.cell? ⟨tb, 0, none⟩ = some (.int .i64 n) := by
  have h75 := @run_callFunc_extern Tryd.prog 75 _ (fun args => ReflectliteValue.unpack (args.getD 0 (.tuple #[]))) Tryd.func75 (by kernel_rfl) (by kernel_rfl) (by kernel_rfl) (by kernel_rfl)
  have hKd := @run_callFunc_extern Tryd.prog 130 _ (ReflectliteType.abiMethod fun t => do pure (.int .u8 (← Rtype.kind t))) Tryd.func130 (by kernel_rfl) (by kernel_rfl) (by kernel_rfl) (by kernel_rfl)
  have hTO := @run_callFunc_extern Tryd.prog 101 _ ReflectliteType.typeOf Tryd.func101 (by kernel_rfl) (by kernel_rfl) (by kernel_rfl) (by kernel_rfl)
  have hAT := @run_callFunc_extern Tryd.prog 141 _ (ReflectliteType.relation "AssignableTo" ReflectliteType.assignableTo) Tryd.func141 (by kernel_rfl) (by kernel_rfl) (by kernel_rfl) (by kernel_rfl)
  have hVE := @run_callFunc_extern Tryd.prog 102 _ (ReflectliteValue.method (ReflectliteValue.valueError "reflectlite.Value.Elem" 0) ReflectliteValue.elem) Tryd.func102 (by kernel_rfl) (by kernel_rfl) (by kernel_rfl) (by kernel_rfl)
  have hVS := @run_callFunc_extern Tryd.prog 103 _ ReflectliteValue.set Tryd.func103 (by kernel_rfl) (by kernel_rfl) (by kernel_rfl) (by kernel_rfl)
  have htl : tb < w.heap.size := World.block_lt_of_cell? w _ ht0
  have hvl : vb < w.heap.size := World.block_lt_of_cell? w _ hv
  have f6 := methodAssignableTo
  have g2 := typeOfE
  have g3 := assignableEE
  have g4 := valueOfE
  have el := elemVP ⟨vb, 0, none⟩ ⟨tb, 0, none⟩
  have st := setE ⟨tb, 0, none⟩ ⟨w.heap.size + 1, 0, none⟩ n old ((w.alloc (.cells #[.pointer (some ⟨2, 78, none⟩), .pointer (some ⟨vb, 0, none⟩), .int .u64 150] 124)).alloc (.cells #[.int .i64 n] 29)) (by go_simp) (by go_simp) (by go_simp)
  go_enter Tryd.func78, Tryd.ntmps78
  repeat (first | go_values | go_skip | go_guarded | go_step | go_upon)
  refine wp_loop_rounds 1 ?_
  rw [rounds_succ]
  repeat (first | go_values | go_skip | go_guarded | go_step | go_upon)
  go_ret
  exact ⟨_, rfl, rfl, galloc (galloc (gset _ _ _) _) _, by go_simp⟩

set_option maxRecDepth 100000 in
set_option maxHeartbeats 4000000 in
theorem as2_FF (p : Nat) (tb vb : Nat) (old : Value) (w : World) (ht0 : w.cell? ⟨tb, 0, none⟩ = some old) (hf0 : w.frozen? ⟨tb, 0, none⟩ = false) (hv : w.cell? ⟨vb, 0, none⟩ = some (.pointer (some ⟨tb, 0, none⟩))) :
    Calls Tryd.prog 78 #[.iface 90 (.pointer (some ⟨p, 0, none⟩)), .iface 91 (.pointer (some ⟨tb, 0, none⟩)), .agg #[.pointer (some ⟨2, 91, none⟩), .pointer (some ⟨vb, 0, none⟩), .int .u64 150], .iface 143 (.agg #[.pointer (some ⟨2, 90, none⟩)])] w fun ev w' => ∃ b, ev = .returned (.bool b) ∧ b = true ∧ w.grownBy w' (some tb) ∧ w'.cell? ⟨tb, 0, none⟩ = some (.pointer (some ⟨p, 0, none⟩)) := by
  have h75 := @run_callFunc_extern Tryd.prog 75 _ (fun args => ReflectliteValue.unpack (args.getD 0 (.tuple #[]))) Tryd.func75 (by kernel_rfl) (by kernel_rfl) (by kernel_rfl) (by kernel_rfl)
  have hKd := @run_callFunc_extern Tryd.prog 130 _ (ReflectliteType.abiMethod fun t => do pure (.int .u8 (← Rtype.kind t))) Tryd.func130 (by kernel_rfl) (by kernel_rfl) (by kernel_rfl) (by kernel_rfl)
  have hTO := @run_callFunc_extern Tryd.prog 101 _ ReflectliteType.typeOf Tryd.func101 (by kernel_rfl) (by kernel_rfl) (by kernel_rfl) (by kernel_rfl)
  have hAT := @run_callFunc_extern Tryd.prog 141 _ (ReflectliteType.relation "AssignableTo" ReflectliteType.assignableTo) Tryd.func141 (by kernel_rfl) (by kernel_rfl) (by kernel_rfl) (by kernel_rfl)
  have hVE := @run_callFunc_extern Tryd.prog 102 _ (ReflectliteValue.method (ReflectliteValue.valueError "reflectlite.Value.Elem" 0) ReflectliteValue.elem) Tryd.func102 (by kernel_rfl) (by kernel_rfl) (by kernel_rfl) (by kernel_rfl)
  have hVS := @run_callFunc_extern Tryd.prog 103 _ ReflectliteValue.set Tryd.func103 (by kernel_rfl) (by kernel_rfl) (by kernel_rfl) (by kernel_rfl)
  have htl : tb < w.heap.size := World.block_lt_of_cell? w _ ht0
  have hvl : vb < w.heap.size := World.block_lt_of_cell? w _ hv
  have f6 := methodAssignableTo
  have g2 := typeOfF
  have g3 := assignableFF
  have g4 := valueOfF
  have el := elemVQ ⟨vb, 0, none⟩ ⟨tb, 0, none⟩
  have st := setF ⟨tb, 0, none⟩ ⟨w.heap.size + 1, 0, none⟩ ⟨p, 0, none⟩ old ((w.alloc (.cells #[.pointer (some ⟨2, 91, none⟩), .pointer (some ⟨vb, 0, none⟩), .int .u64 150] 124)).alloc (.cells #[.pointer (some ⟨p, 0, none⟩)] 90)) (by go_simp) (by go_simp) (by go_simp)
  go_enter Tryd.func78, Tryd.ntmps78
  repeat (first | go_values | go_skip | go_guarded | go_step | go_upon)
  refine wp_loop_rounds 1 ?_
  rw [rounds_succ]
  repeat (first | go_values | go_skip | go_guarded | go_step | go_upon)
  go_ret
  exact ⟨_, rfl, rfl, galloc (galloc (gset _ _ _) _) _, by go_simp⟩

set_option maxRecDepth 100000 in
set_option maxHeartbeats 4000000 in
theorem as2_FE (p : Nat) (n : Int) (tb vb : Nat) (old : Value) (w : World) (hp : w.cell? ⟨p, 0, none⟩ = some (.int .i64 n)) (ht0 : w.cell? ⟨tb, 0, none⟩ = some old) (hf0 : w.frozen? ⟨tb, 0, none⟩ = false) (hv : w.cell? ⟨vb, 0, none⟩ = some (.pointer (some ⟨tb, 0, none⟩))) :
    Calls Tryd.prog 78 #[.iface 90 (.pointer (some ⟨p, 0, none⟩)), .iface 78 (.pointer (some ⟨tb, 0, none⟩)), .agg #[.pointer (some ⟨2, 78, none⟩), .pointer (some ⟨vb, 0, none⟩), .int .u64 150], .iface 143 (.agg #[.pointer (some ⟨2, 29, none⟩)])] w fun ev w' => ∃ b, ev = .returned (.bool b) ∧ b = true ∧ w.grownBy w' (some tb) ∧ w'.cell? ⟨tb, 0, none⟩ = some (.int .i64 n) := by
  have h75 := @run_callFunc_extern Tryd.prog 75 _ (fun args => ReflectliteValue.unpack (args.getD 0 (.tuple #[]))) Tryd.func75 (by kernel_rfl) (by kernel_rfl) (by kernel_rfl) (by kernel_rfl)
  have hKd := @run_callFunc_extern Tryd.prog 130 _ (ReflectliteType.abiMethod fun t => do pure (.int .u8 (← Rtype.kind t))) Tryd.func130 (by kernel_rfl) (by kernel_rfl) (by kernel_rfl) (by kernel_rfl)
  have hTO := @run_callFunc_extern Tryd.prog 101 _ ReflectliteType.typeOf Tryd.func101 (by kernel_rfl) (by kernel_rfl) (by kernel_rfl) (by kernel_rfl)
  have hAT := @run_callFunc_extern Tryd.prog 141 _ (ReflectliteType.relation "AssignableTo" ReflectliteType.assignableTo) Tryd.func141 (by kernel_rfl) (by kernel_rfl) (by kernel_rfl) (by kernel_rfl)
  have hVE := @run_callFunc_extern Tryd.prog 102 _ (ReflectliteValue.method (ReflectliteValue.valueError "reflectlite.Value.Elem" 0) ReflectliteValue.elem) Tryd.func102 (by kernel_rfl) (by kernel_rfl) (by kernel_rfl) (by kernel_rfl)
  have hVS := @run_callFunc_extern Tryd.prog 103 _ ReflectliteValue.set Tryd.func103 (by kernel_rfl) (by kernel_rfl) (by kernel_rfl) (by kernel_rfl)
  have htl : tb < w.heap.size := World.block_lt_of_cell? w _ ht0
  have hvl : vb < w.heap.size := World.block_lt_of_cell? w _ hv
  have f6 := methodAssignableTo
  have g2 := typeOfE
  have g3 := assignableEE
  have g4 := valueOfE
  have el := elemVP ⟨vb, 0, none⟩ ⟨tb, 0, none⟩
  have st := setE ⟨tb, 0, none⟩ ⟨w.heap.size + 1, 0, none⟩ n old ((w.alloc (.cells #[.pointer (some ⟨2, 78, none⟩), .pointer (some ⟨vb, 0, none⟩), .int .u64 150] 124)).alloc (.cells #[.int .i64 n] 29)) (by go_simp) (by go_simp) (by go_simp)
  have k2 := typeOfF
  have k3 := assignableFE
  have k4 := noAsF
  have k5 := isUnF
  have k6 := methodUnwrap
  have hpl : p < w.heap.size := World.block_lt_of_cell? w _ hp
  go_enter Tryd.func78, Tryd.ntmps78
  repeat (first | go_values | go_skip | go_guarded | go_step | go_upon)
  refine wp_loop_rounds 2 ?_
  rw [rounds_succ]
  repeat (first | go_values | go_skip | go_guarded | go_step | go_upon)
  refine (unwrap_any p n _ (by go_simp)).mono ?_
  rintro e w2 ⟨rfl, rfl⟩
  dsimp only
  repeat (first | go_values | go_skip | go_guarded | go_step | go_upon)
  rw [rounds_succ]
  repeat (first | go_values | go_skip | go_guarded | go_step | go_upon)
  go_ret
  exact ⟨_, rfl, rfl, galloc (galloc (gset _ _ _) _) _, by go_simp⟩

set_option maxRecDepth 100000 in
set_option maxHeartbeats 4000000 in
theorem as2_EF (n : Int) (tb vb : Nat) (old : Value) (w : World) (ht0 : w.cell? ⟨tb, 0, none⟩ = some old) (_ : w.frozen? ⟨tb, 0, none⟩ = false) (hv : w.cell? ⟨vb, 0, none⟩ = some (.pointer (some ⟨tb, 0, none⟩))) :
    Calls Tryd.prog 78 #[.iface 29 (.int .i64 n), .iface 91 (.pointer (some ⟨tb, 0, none⟩)), .agg #[.pointer (some ⟨2, 91, none⟩), .pointer (some ⟨vb, 0, none⟩), .int .u64 150], .iface 143 (.agg #[.pointer (some ⟨2, 90, none⟩)])] w fun ev w' => ∃ b, ev = .returned (.bool b) ∧ b = false ∧ Below w.heap.size w w' := by
  have h75 := @run_callFunc_extern Tryd.prog 75 _ (fun args => ReflectliteValue.unpack (args.getD 0 (.tuple #[]))) Tryd.func75 (by kernel_rfl) (by kernel_rfl) (by kernel_rfl) (by kernel_rfl)
  have hKd := @run_callFunc_extern Tryd.prog 130 _ (ReflectliteType.abiMethod fun t => do pure (.int .u8 (← Rtype.kind t))) Tryd.func130 (by kernel_rfl) (by kernel_rfl) (by kernel_rfl) (by kernel_rfl)
  have hTO := @run_callFunc_extern Tryd.prog 101 _ ReflectliteType.typeOf Tryd.func101 (by kernel_rfl) (by kernel_rfl) (by kernel_rfl) (by kernel_rfl)
  have hAT := @run_callFunc_extern Tryd.prog 141 _ (ReflectliteType.relation "AssignableTo" ReflectliteType.assignableTo) Tryd.func141 (by kernel_rfl) (by kernel_rfl) (by kernel_rfl) (by kernel_rfl)
  have hVE := @run_callFunc_extern Tryd.prog 102 _ (ReflectliteValue.method (ReflectliteValue.valueError "reflectlite.Value.Elem" 0) ReflectliteValue.elem) Tryd.func102 (by kernel_rfl) (by kernel_rfl) (by kernel_rfl) (by kernel_rfl)
  have hVS := @run_callFunc_extern Tryd.prog 103 _ ReflectliteValue.set Tryd.func103 (by kernel_rfl) (by kernel_rfl) (by kernel_rfl) (by kernel_rfl)
  have htl : tb < w.heap.size := World.block_lt_of_cell? w _ ht0
  have hvl : vb < w.heap.size := World.block_lt_of_cell? w _ hv
  have f6 := methodAssignableTo
  have g2 := typeOfE
  have g3 := assignableEF
  have k4 := noAsE
  have k5 := noUnE
  have k6 := noUUE
  go_enter Tryd.func78, Tryd.ntmps78
  repeat (first | go_values | go_skip | go_guarded | go_step | go_upon)
  refine wp_loop_rounds 1 ?_
  rw [rounds_succ]
  repeat (first | go_values | go_skip | go_guarded | go_step | go_upon)
  go_ret
  exact ⟨_, rfl, rfl, (by repeat (first | exact Below.refl _ _ | assumption | refine bal ?_ _ | refine bdr ?_ | refine bdrn ?_ _ | (refine bset ?_ (by first | exact Nat.le_refl _ | (simp; done) | (simp; omega) | omega) _) | refine bstep ?_ (by assumption)))⟩
end Go.Proofs.YtlohpplpnddfaaaDoor
