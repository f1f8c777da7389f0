/- The walks of class.reader's methods pick, is, wrong. -/
import Derived.Test.YtcogimlekmnpjaaDoorG2
import Derived.Test.YtcogimlekmnpjaaDoorG0
import Derived.Lib.QuietBelow
import Derived.Maps.AppendAt
namespace Go.Proofs.YtcogimlekmnpjaaDoor
open Go.RowKit Go.Sort

/-- A string's bytes. -/
def bl (S : ByteArray) : List UInt8 := S.data.toList
theorem bl_length (S : ByteArray) : (bl S).length = S.size := by rw [bl, Array.length_toList]; rfl
theorem byteAt_ba {S : ByteArray} {a : Nat} (h : a < S.size) : byteAt (bl S) a = S[a].toNat := by
  rw [byteAt_lt (by rw [bl_length]; exact h)]; rfl
theorem byteAt_bge {S : ByteArray} {a : Nat} (h : S.size ≤ a) : byteAt (bl S) a = 256 := byteAt_ge (by rw [bl_length]; exact h)
theorem wrongAt_bout {S : ByteArray} {a : Nat} (h : S.size ≤ a) : wrongAt (bl S) a = (3, S.size) := by rw [wrongAt_out (by rw [bl_length]; exact h), bl_length]
theorem wrongAt_bin {S : ByteArray} {a : Nat} (h : a < S.size) : wrongAt (bl S) a = (4, a) := wrongAt_in (by rw [bl_length]; exact h)
/-- A reader at R over s, at a place. -/
def RD (R : Nat) (S : ByteArray) (a : Nat) (w : World) : Prop := w.heap[R]? = some (.cells #[.string S, .int .i64 (a : Int)] 91 (0, 0))
/-- Behind the call the reader stands at a place; nothing else has changed. -/
def Rto (R : Nat) (S : ByteArray) (a : Nat) (w w' : World) : Prop := RD R S a w' ∧ w.grownBy w' (some R)
/-- Which of these bytes that one is. -/
def pk (of : List UInt8) (b : Nat) : Int := if b < 256 then Lib.indexByte of b.toUInt8 else -1
theorem pk_letters : ∀ b, b < 257 → pk [110, 114, 116] b = if b = 110 then 0 else if b = 114 then 1 else if b = 116 then 2 else -1 := by decide +kernel
theorem pk_marked : ∀ b, b < 257 → pk [91, 93, 92, 45, 94] b = if b = 91 then 0 else if b = 93 then 1 else if b = 92 then 2 else if b = 45 then 3 else if b = 94 then 4 else -1 := by decide +kernel
theorem pk_hexes : ∀ b, b < 257 → pk [48, 49, 50, 51, 52, 53, 54, 55, 56, 57, 97, 98, 99, 100, 101, 102] b = if digV b = 16 then (-1 : Int) else (digV b : Int) := by decide +kernel
theorem pk_one (x : Nat) : x < 256 → ∀ b, b < 257 → pk [x.toUInt8] b = if b = x then 0 else -1 := by
  intro hx b hb
  unfold pk Lib.indexByte Lib.indexByte
  by_cases h : b = x
  · subst h; simp [hx]
  · have : ¬ (x.toUInt8 == b.toUInt8) = true ∨ ¬ b < 256 := by
      rcases Nat.lt_or_ge b 256 with h1 | h1
      · left
        intro e
        have e := congrArg UInt8.toNat (eq_of_beq e)
        simp at e
        omega
      · right; omega
    rw [if_neg h]
    split
    · rcases this with h1 | h1
      · rw [if_neg h1]; simp
      · contradiction
    · rfl
theorem rd_set {R : Nat} {S : ByteArray} {a n : Nat} {w : World} (h : RD R S a w) : RD R S n (w.setCell ⟨R, 1, none⟩ (.int .i64 (n : Int))) := by
  unfold RD at *
  have hlt : R < w.heap.size := (Array.getElem?_eq_some_iff.1 h).1
  have e : w.heap[R] = .cells #[.string S, .int .i64 (a : Int)] 91 (0, 0) := (Array.getElem?_eq_some_iff.1 h).2
  simp [World.setCell, Array.getElem?_modify, h]
theorem rd_lt {R : Nat} {S : ByteArray} {a : Nat} {w : World} (h : RD R S a w) : R < w.heap.size := (Array.getElem?_eq_some_iff.1 h).1
theorem rd_cells {R : Nat} {S : ByteArray} {a : Nat} {w : World} (h : RD R S a w) : w.cell? ⟨R, 0, none⟩ = some (.string S) ∧ w.cell? ⟨R, 1, none⟩ = some (.int .i64 (a : Int)) ∧ (∀ j, w.frozen? ⟨R, j, none⟩ = false) :=
  ⟨(cells_at h).1 0, (cells_at h).1 1, (cells_at h).2.1⟩
theorem gset1 (w : World) (R : Nat) (v : Value) : w.grownBy (w.setCell ⟨R, 1, none⟩ v) (some R) := ⟨rfl, rfl, rfl, by simp, fun k _ hk => heap_setCell_other w ⟨R, 1, none⟩ k v (fun e => hk (by simp [e]))⟩
theorem grefl (w : World) (r : Option Nat) : w.grownBy w r := ⟨rfl, rfl, rfl, Nat.le_refl _, fun _ _ _ => rfl⟩

theorem below_rto {R : Nat} {S : ByteArray} {a : Nat} {w w' : World} (h : RD R S a w) (hb : Below w.heap.size w w') : Rto R S a w w' :=
  ⟨(hb.block _ (rd_lt h)).trans h, hb.os, hb.tape, hb.output, hb.size, fun k hk _ => hb.block k hk⟩
theorem rto_trans {R : Nat} {S : ByteArray} {a b : Nat} {w w1 w2 : World} (h : Rto R S a w w1) (k : Rto R S b w1 w2) : Rto R S b w w2 := ⟨k.1, h.2.trans k.2⟩
theorem rto_set {R : Nat} {S : ByteArray} {a n : Nat} {w w1 : World} (h : Rto R S a w w1) : Rto R S n w (w1.setCell ⟨R, 1, none⟩ (.int .i64 (n : Int))) := ⟨rd_set h.1, h.2.trans (gset1 _ _ _)⟩
theorem rd_grown0 {R : Nat} {S : ByteArray} {a : Nat} {w : World} (h : RD R S a w) (d : Nat) (os : Array Obj) : (grow (redrawn w.drew d) os).cell? ⟨R, 0, none⟩ = some (.string S) := by
  rw [grown_cell w.drew d os ⟨R, 0, none⟩ (rd_lt h)]; exact (rd_cells h).1
theorem rd_grown1 {R : Nat} {S : ByteArray} {a : Nat} {w : World} (h : RD R S a w) (d : Nat) (os : Array Obj) : (grow (redrawn w.drew d) os).cell? ⟨R, 1, none⟩ = some (.int .i64 (a : Int)) := by
  rw [grown_cell w.drew d os ⟨R, 1, none⟩ (rd_lt h)]; exact (rd_cells h).2.1
theorem rd_grown0' {R : Nat} {S : ByteArray} {a : Nat} {w : World} (h : RD R S a w) (d : Nat) (os : Array Obj) : (grow (redrawn w d) os).cell? ⟨R, 0, none⟩ = some (.string S) := by
  rw [grown_cell w d os ⟨R, 0, none⟩ (rd_lt h)]; exact (rd_cells h).1
theorem rd_grown1' {R : Nat} {S : ByteArray} {a : Nat} {w : World} (h : RD R S a w) (d : Nat) (os : Array Obj) : (grow (redrawn w d) os).cell? ⟨R, 1, none⟩ = some (.int .i64 (a : Int)) := by
  rw [grown_cell w d os ⟨R, 1, none⟩ (rd_lt h)]; exact (rd_cells h).2.1
theorem drew_below (w : World) : Below w.heap.size w w.drew := (Below.refl _ _).drew
set_option maxRecDepth 100000 in
set_option maxHeartbeats 1600000 in
theorem pick_no (R : Nat) (S : ByteArray) (a : Nat) (of : List UInt8) (w : World) (h : RD R S a w) (_ : S.size ≤ 140737488355328) (hk : pk of (byteAt (bl S) a) = -1) :
    Calls Tryd.prog 42 #[.pointer (some ⟨R, 0, none⟩), .string ⟨of.toArray⟩] w fun e w' => e = .returned (.int .i64 (-1)) ∧ Rto R S a w w' := by
  obtain ⟨c0, c1, fz⟩ := rd_cells h
  have HR := Lib.hid h
  clear h
  by_cases ha : S.size ≤ a
  · clear hk
    have d1 : decide (S.size ≤ a) = true := by simpa using ha
    go_enter Tryd.func42, Tryd.ntmps42
    repeat (first | go_values | go_skip | go_guarded | go_step | go_upon)
    go_region
    repeat (first | go_values | go_skip | go_guarded | go_step | go_upon)
    go_ret
    exact ⟨rfl, below_rto HR.out (drew_below _)⟩
  · have d1 : decide (S.size ≤ a) = false := by simpa using ha
    have hb := byteAt_ba (Nat.lt_of_not_le ha)
    rw [hb] at hk
    have h2 : Lib.indexByte of (S[a]).toNat.toUInt8 = -1 := by have := UInt8.toNat_lt S[a]; simpa [pk, this] using hk
    have H2 := Lib.hid (fun w' => idx_any ⟨of.toArray⟩ (S[a].toNat : Int) _ w' (by simpa using h2))
    clear hk hb h2
    have hl : a < S.size := by omega
    have hR0 : R < w.heap.size := rd_lt HR.out
    have HR2 := Lib.hid (fun (w2 : World) (hb2 : Below w.drew.heap.size w.drew w2) => (below_rto HR.out (bstep (drew_below _) hb2)).1)
    go_enter Tryd.func42, Tryd.ntmps42
    repeat (first | go_values | go_skip | go_guarded | go_step | go_upon)
    go_region
    have q0 := rd_grown0 HR.out
    have q1 := rd_grown1 HR.out
    repeat (first | go_values | go_skip | go_guarded | go_step | go_upon)
    have hG := grown_cell
    have g2_0 : R < w.heap.size := by omega
    refine wp_region_qb (by kernel_rfl) (by kernel_rfl) ?_
    repeat (quiet_step (first | (with_reducible exact ans_quiet (H2.out _))))
    refine wpQuiet_nil ?_
    intro w2 hb2
    clear hG
    obtain ⟨hc2, hf2⟩ := bcell hb2
    have hz2 := hb2.size
    try simp at hz2
    have q2_0 : R < w2.heap.size := by omega
    clear q0 q1
    obtain ⟨c2, c3, fz2⟩ := rd_cells (HR2.out _ hb2)
    repeat (first | go_values | go_skip | go_guarded | go_step | go_upon)
    go_ret
    exact ⟨rfl, below_rto HR.out (bstep (drew_below _) hb2)⟩
set_option maxRecDepth 100000 in
set_option maxHeartbeats 1600000 in
theorem pick_yes (R : Nat) (S : ByteArray) (a : Nat) (of : List UInt8) (i : Nat) (w : World) (h : RD R S a w) (hs : S.size ≤ 140737488355328) (hk : pk of (byteAt (bl S) a) = i) :
    Calls Tryd.prog 42 #[.pointer (some ⟨R, 0, none⟩), .string ⟨of.toArray⟩] w fun e w' => e = .returned (.int .i64 (i : Int)) ∧ Rto R S (a + 1) w w' := by
  obtain ⟨c0, c1, fz⟩ := rd_cells h
  have HR := Lib.hid h
  clear h
  by_cases ha : S.size ≤ a
  · exfalso
    rw [byteAt_bge ha] at hk
    simp [pk] at hk
  · have d1 : decide (S.size ≤ a) = false := by simpa using ha
    have hb := byteAt_ba (Nat.lt_of_not_le ha)
    rw [hb] at hk
    have h2 : Lib.indexByte of (S[a]).toNat.toUInt8 = i := by have := UInt8.toNat_lt S[a]; simpa [pk, this] using hk
    have H2 := Lib.hid (fun w' => idx_any ⟨of.toArray⟩ (S[a].toNat : Int) _ w' (by simpa using h2))
    clear hk hb h2
    have hl : a < S.size := by omega
    have hR0 : R < w.heap.size := rd_lt HR.out
    have HR2 := Lib.hid (fun (w2 : World) (hb2 : Below w.drew.heap.size w.drew w2) => (below_rto HR.out (bstep (drew_below _) hb2)).1)
    go_enter Tryd.func42, Tryd.ntmps42
    repeat (first | go_values | go_skip | go_guarded | go_step | go_upon)
    go_region
    have q0 := rd_grown0 HR.out
    have q1 := rd_grown1 HR.out
    repeat (first | go_values | go_skip | go_guarded | go_step | go_upon)
    have hG := grown_cell
    have g2_0 : R < w.heap.size := by omega
    refine wp_region_qb (by kernel_rfl) (by kernel_rfl) ?_
    repeat (quiet_step (first | (with_reducible exact ans_quiet (H2.out _))))
    refine wpQuiet_nil ?_
    intro w2 hb2
    clear hG
    obtain ⟨hc2, hf2⟩ := bcell hb2
    have hz2 := hb2.size
    try simp at hz2
    have q2_0 : R < w2.heap.size := by omega
    clear q0 q1
    obtain ⟨c2, c3, fz2⟩ := rd_cells (HR2.out _ hb2)
    repeat (first | go_values | go_skip | go_guarded | go_step | go_upon)
    go_ret
    exact ⟨rfl, rto_set (n := a + 1) (below_rto HR.out (bstep (drew_below _) hb2))⟩
set_option maxRecDepth 100000 in
set_option maxHeartbeats 1600000 in
theorem is_any (R : Nat) (S : ByteArray) (a : Nat) (c : Nat) (r : Bool) (w : World) (h : RD R S a w) (_ : S.size ≤ 140737488355328) (hc : c < 256) (hk : (byteAt (bl S) a == c) = r) :
    Calls Tryd.prog 54 #[.pointer (some ⟨R, 0, none⟩), .int .u8 (c : Int)] w (Ans (.bool r) w) := by
  obtain ⟨c0, c1, fz⟩ := rd_cells h
  have HR := Lib.hid h
  clear h
  by_cases ha : S.size ≤ a
  · rw [byteAt_bge ha] at hk
    obtain rfl : r = false := by rw [← hk]; simp; omega
    clear hk
    have d1 : decide (a < S.size) = false := by simpa using ha
    go_enter Tryd.func54, Tryd.ntmps54
    repeat (first | go_values | go_skip | go_guarded | go_step | go_upon)
    go_region
    repeat (first | go_values | go_skip | go_guarded | go_step | go_upon)
    go_ret
    exact ⟨rfl, (by repeat (first | exact Below.refl _ _ | assumption | refine bal ?_ _ | refine bdr ?_ | refine bdrn ?_ _ | (refine bset ?_ (by first | exact Nat.le_refl _ | (simp; done) | (simp; omega) | omega) _) | refine bstep ?_ (by assumption)))⟩
  · have d1 : decide (a < S.size) = true := by simpa using ha
    have hl : a < S.size := by omega
    rw [byteAt_ba hl] at hk
    have e : ((S[a].toNat : Int) == (c : Int)) = r := by rw [← hk, Bool.eq_iff_iff]; simp; omega
    have HE := Lib.hid e
    clear hk e
    go_enter Tryd.func54, Tryd.ntmps54
    repeat (first | go_values | go_skip | go_guarded | go_step | go_upon)
    go_region
    repeat (first | go_values | go_skip | go_guarded | go_step | go_upon)
    go_ret
    exact ⟨ret_bool HE.out, (by repeat (first | exact Below.refl _ _ | assumption | refine bal ?_ _ | refine bdr ?_ | refine bdrn ?_ _ | (refine bset ?_ (by first | exact Nat.le_refl _ | (simp; done) | (simp; omega) | omega) _) | refine bstep ?_ (by assumption)))⟩
/-- The error at p. -/
def FaultAt (p : Nat) (e : Nat × Nat) (w : World) : Prop := w.heap[p]? = some (.cells #[.int .i64 (e.1 : Int), .int .i64 (e.2 : Int)] 62 (0, 0))
/-- It answers an error of its own. -/
def AnsFault (e : Nat × Nat) (w : World) (v : Value → Value) (ev : Ending) (w' : World) : Prop := ∃ p, ev = .returned (v (.iface 44 (.pointer (some ⟨p, 0, none⟩)))) ∧ FaultAt p e w' ∧ w.heap.size ≤ p
set_option maxRecDepth 100000 in
set_option maxHeartbeats 1600000 in
theorem wrong_any (R : Nat) (S : ByteArray) (a : Nat) (w : World) (h : RD R S a w) (_ : S.size ≤ 140737488355328) :
    Calls Tryd.prog 43 #[.pointer (some ⟨R, 0, none⟩)] w fun e w' => AnsFault (wrongAt (bl S) a) w id e w' ∧ Below w.heap.size w w' := by
  obtain ⟨c0, c1, fz⟩ := rd_cells h
  have HR := Lib.hid h
  clear h
  by_cases ha : S.size ≤ a
  · have hw := Lib.hid (wrongAt_bout ha)
    have d1 : decide (S.size ≤ a) = true := by simpa using ha
    go_enter Tryd.func43, Tryd.ntmps43
    repeat (first | go_values | go_skip | go_guarded | go_step | go_upon)
    go_region
    repeat (first | go_values | go_skip | go_guarded | go_step | go_upon)
    go_ret
    refine ⟨⟨_, rfl, ?_, ?_⟩, (by repeat (first | exact Below.refl _ _ | assumption | refine bal ?_ _ | refine bdr ?_ | refine bdrn ?_ _ | (refine bset ?_ (by first | exact Nat.le_refl _ | (simp; done) | (simp; omega) | omega) _) | refine bstep ?_ (by assumption)))⟩
    · rw [hw.out]; exact heap_alloc_new _ _
    · simp
  · have hw := Lib.hid (wrongAt_bin (Nat.lt_of_not_le ha))
    have d1 : decide (S.size ≤ a) = false := by simpa using ha
    go_enter Tryd.func43, Tryd.ntmps43
    repeat (first | go_values | go_skip | go_guarded | go_step | go_upon)
    go_region
    repeat (first | go_values | go_skip | go_guarded | go_step | go_upon)
    go_ret
    refine ⟨⟨_, rfl, ?_, ?_⟩, (by repeat (first | exact Below.refl _ _ | assumption | refine bal ?_ _ | refine bdr ?_ | refine bdrn ?_ _ | (refine bset ?_ (by first | exact Nat.le_refl _ | (simp; done) | (simp; omega) | omega) _) | refine bstep ?_ (by assumption)))⟩
    · rw [hw.out]; exact heap_alloc_new _ _
    · simp
end Go.Proofs.YtcogimlekmnpjaaDoor
