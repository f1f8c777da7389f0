/- Two trees compared as they lie anywhere: where they are the same, with or without their places. | A grammar that was read, as any grammar in memory. | Parse's deferred closure: where a fault is thrown, and where none is. | The walk of Parse. | A drawn region whose panics' post may speak of slots that the region does not write. -/
import Derived.Test.YtjlcoldnhbkcgaaGreatDoorG19
import Derived.Test.YtjlcoldnhbkcgaaGreatDoorG27
import Derived.Test.YtjlcoldnhbkcgaaGreatDoorG25
import Derived.Deep.RegionHeld3
namespace Go.Proofs.YtjlcoldnhbkcgaaGreatDoor
open Go.RowKit Go.Sort

theorem allocs_new (w : World) (o o' : Obj) : ((w.alloc o).alloc o').heap[w.heap.size + 1]? = some o' := by
  have h := heap_alloc_new (w.alloc o) o'
  rwa [World.size_alloc] at h
/-- The contract of SameNode at a tree. -/
def SameCT (at_ : Bool) (n : Tr) : Prop := ∀ (m : Tr) (w : World) (P P' : Nat → Prop) (c c' : List Value), SameT at_ n m → RepA w P n c → RepA w P' m c' → (∀ b, P b → b < w.heap.size) → (∀ b, P' b → b < w.heap.size) →
  Calls Tryz.prog 40 #[.agg c.toArray, .agg c'.toArray, .bool at_] w (Ans (.bool true) w)
set_option maxRecDepth 100000 in
set_option maxHeartbeats 3200000 in
theorem sameT_leaf (at_ : Bool) {k p p' : Int} {t : List UInt8} {x : BitVec 256} {a a' : Option Addr} {cap cap' : Nat} (w : World) (hp : at_ = true → p = p') :
    Calls Tryz.prog 40 #[.agg (trC k t x (.slice a 0 cap) p).toArray, .agg (trC k t x (.slice a' 0 cap') p').toArray, .bool at_] w (Ans (.bool true) w) := by
  have f8 := guard_cl
  have f9 := equal_cl
  have hm1 := cell_alloc_lt
  dsimp only [trC]
  cases at_ with
  | false =>
    clear hp
    go_enter Tryz.func40, Tryz.ntmps40
    repeat (first | go_values | go_skip | go_guarded | go_step | go_upon)
    refine wp_loop_rounds 1 ?_
    rw [rounds_succ]
    repeat (first | go_values | go_skip | go_guarded | go_step | go_upon)
    go_ret
    exact ⟨rfl, (by repeat (first | exact Below.refl _ _ | assumption | refine bal ?_ _ | refine bdr ?_ | refine bdrn ?_ _ | (refine bset ?_ (by first | exact Nat.le_refl _ | (simp; done) | (simp; omega) | omega) _) | refine bstep ?_ (by assumption)))⟩
  | true =>
    obtain rfl := hp rfl
    clear hp
    go_enter Tryz.func40, Tryz.ntmps40
    repeat (first | go_values | go_skip | go_guarded | go_step | go_upon)
    refine wp_loop_rounds 1 ?_
    rw [rounds_succ]
    repeat (first | go_values | go_skip | go_guarded | go_step | go_upon)
    go_ret
    exact ⟨rfl, (by repeat (first | exact Below.refl _ _ | assumption | refine bal ?_ _ | refine bdr ?_ | refine bdrn ?_ _ | (refine bset ?_ (by first | exact Nat.le_refl _ | (simp; done) | (simp; omega) | omega) _) | refine bstep ?_ (by assumption)))⟩
set_option maxRecDepth 100000 in
set_option maxHeartbeats 6400000 in
theorem sameT_row (at_ : Bool) {k p p' : Int} {n g g' o o' cap cap' : Nat} {t : List UInt8} {x : BitVec 256} {l l' : List Tr} {P P' : Nat → Prop} (w : World) (hp : at_ = true → p = p') (hl : SameU at_ l l') (hn : l.length = n) (_ : n ≤ cap) (_ : n ≤ cap') (hmax : n ≤ maxLen) (hg : P g) (hg' : P' g') (r1 : RepC w P g o l) (r2 : RepC w P' g' o' l') (hP : ∀ b, P b → b < w.heap.size) (hP' : ∀ b, P' b → b < w.heap.size) (IH : ∀ m ∈ l, SameCT at_ m) :
    Calls Tryz.prog 40 #[.agg (trC k t x (.slice (some ⟨g, o, none⟩) n cap) p).toArray, .agg (trC k t x (.slice (some ⟨g', o', none⟩) n cap') p').toArray, .bool at_] w (Ans (.bool true) w) := by
  have f8 := guard_cl
  have f9 := equal_cl
  have hm1 := cell_alloc_lt
  have HL := Lib.hid hl
  have HN := Lib.hid hn
  have hn' : l'.length = n := by rw [← hl.length]; exact hn
  have HN' := Lib.hid hn'
  have R1 := Lib.hid r1
  have R2 := Lib.hid r2
  have HG := Lib.hid hg
  have HG' := Lib.hid hg'
  have HP := Lib.hid hP
  have HP' := Lib.hid hP'
  have HI := Lib.hid IH
  have lg := hP g hg
  have lg' := hP' g' hg'
  unfold maxLen at hmax
  clear hl hn hn' r1 r2 hg hg' hP hP' IH
  dsimp only [trC]
  cases at_ with
  | false =>
    clear hp
    go_enter Tryz.func40, Tryz.ntmps40
    repeat (first | go_values | go_skip | go_guarded | go_step | go_upon)
    go_loopw [7] (fun tt wr => ∃ j : Nat, tt = .int .i64 (j : Int) ∧ j ≤ n ∧ Below ((w.alloc (.cells #[.int .i64 k, .string (mkS t), .int .u64 (wd x 0), .int .u64 (wd x 1), .int .u64 (wd x 2), .int .u64 (wd x 3), .slice (some ⟨g, o, none⟩) n cap, .int .i64 p] 40)).alloc (.cells #[.int .i64 k, .string (mkS t), .int .u64 (wd x 0), .int .u64 (wd x 1), .int .u64 (wd x 2), .int .u64 (wd x 3), .slice (some ⟨g', o', none⟩) n cap', .int .i64 p'] 40)).heap.size ((w.alloc (.cells #[.int .i64 k, .string (mkS t), .int .u64 (wd x 0), .int .u64 (wd x 1), .int .u64 (wd x 2), .int .u64 (wd x 3), .slice (some ⟨g, o, none⟩) n cap, .int .i64 p] 40)).alloc (.cells #[.int .i64 k, .string (mkS t), .int .u64 (wd x 0), .int .u64 (wd x 1), .int .u64 (wd x 2), .int .u64 (wd x 3), .slice (some ⟨g', o', none⟩) n cap', .int .i64 p'] 40)) wr) (fun tt _ => n - (intOf tt).toNat)
    case atStart => exact ⟨0, rfl, Nat.zero_le _, Below.refl _ _⟩
    case round =>
      obtain ⟨j, rfl, hj, hbr⟩ := hrel
      have HB := Lib.hid hbr
      have hA := (hbr.block w.heap.size (by simp; omega)).trans ((RowKit.Below.heap_alloc _ _ _ (by simp)).trans (heap_alloc_new w (.cells #[.int .i64 k, .string (mkS t), .int .u64 (wd x 0), .int .u64 (wd x 1), .int .u64 (wd x 2), .int .u64 (wd x 3), .slice (some ⟨g, o, none⟩) n cap, .int .i64 p] 40)))
      have hB := (hbr.block (w.heap.size + 1) (by simp)).trans (allocs_new w (.cells #[.int .i64 k, .string (mkS t), .int .u64 (wd x 0), .int .u64 (wd x 1), .int .u64 (wd x 2), .int .u64 (wd x 3), .slice (some ⟨g, o, none⟩) n cap, .int .i64 p] 40) (.cells #[.int .i64 k, .string (mkS t), .int .u64 (wd x 0), .int .u64 (wd x 1), .int .u64 (wd x 2), .int .u64 (wd x 3), .slice (some ⟨g', o', none⟩) n cap', .int .i64 p'] 40))
      have s1 : wr.cell? ⟨w.heap.size, 6, none⟩ = some (.slice (some ⟨g, o, none⟩) n cap) := (cells_at hA).1 6
      have s2 : wr.cell? ⟨w.heap.size + 1, 6, none⟩ = some (.slice (some ⟨g', o', none⟩) n cap') := (cells_at hB).1 6
      have hw : Below w.heap.size w wr := (bal (bal (Below.refl _ w) _) _).trans (hbr.mono (by simp; omega))
      have HW := Lib.hid hw
      clear hA hB hbr hw
      by_cases hlt : j < n
      · obtain ⟨y, hy⟩ : ∃ y, l[j]? = some y := ⟨l[j]'(by rw [HN.out]; exact hlt), List.getElem?_eq_getElem (by rw [HN.out]; exact hlt)⟩
        obtain ⟨y', hy'⟩ : ∃ y', l'[j]? = some y' := ⟨l'[j]'(by rw [HN'.out]; exact hlt), List.getElem?_eq_getElem (by rw [HN'.out]; exact hlt)⟩
        obtain ⟨k1, t1, x1, sa, sn, sc, p1, l1, _, q0, _, a0, a1, a2, a3, a4, a5, a6, a7⟩ := (R1.out.mono (w' := wr) (P' := P) (fun b hb => HW.out.block b (HP.out b hb)) (fun _ h => h) HG.out).get hy
        obtain ⟨k2, t2, x2, sa2, sn2, sc2, p2, l2, _, q0', _, b0, b1, b2, b3, b4, b5, b6, b7⟩ := (R2.out.mono (w' := wr) (P' := P') (fun b hb => HW.out.block b (HP'.out b hb)) (fun _ h => h) HG'.out).get hy'
        have hz := HW.out.size
        have HC := Lib.hid (fun (w' : World) (e : w'.heap = wr.heap) => HI.out y (List.mem_of_getElem? hy) y' w' P P' _ _ (HL.out.get hy hy') (q0.mono (w' := w') (fun b _ => by rw [e]) (fun _ h => h)) (q0'.mono (w' := w') (fun b _ => by rw [e]) (fun _ h => h)) (fun b hb => by rw [e]; exact Nat.lt_of_lt_of_le (HP.out b hb) hz) (fun b hb => by rw [e]; exact Nat.lt_of_lt_of_le (HP'.out b hb) hz))
        clear hy hy' q0 q0'
        have d1 : decide ((j : Int) < n) = true := by simpa using hlt
        repeat (first | go_values | go_skip | go_guarded | go_step | go_upon)
        go_still_tail 11, (by kernel_rfl)
        repeat (first | go_values | go_skip | go_guarded | go_step | go_upon)
        refine (HC.out wr.drew rfl).mono ?_
        rintro e w1 ⟨rfl, hb1⟩
        dsimp only
        repeat (first | go_values | go_skip | go_guarded | go_step | go_upon)
        exact ⟨⟨j + 1, by go_num, by omega, HB.out.trans ((drew_below wr).trans (hb1.mono (by simp)) |>.mono (by have := HB.out.size; simpa using this))⟩, by simp [intOf]; omega⟩
      · have d1 : decide (j < n) = false := by simpa using hlt
        clear hlt
        repeat (first | go_values | go_skip | go_guarded | go_step | go_upon)
        go_ret
        exact ⟨rfl, (bal (bal (Below.refl _ w) _) _).trans (HB.out.mono (by simp; omega))⟩
  | true =>
    obtain rfl := hp rfl
    clear hp
    go_enter Tryz.func40, Tryz.ntmps40
    repeat (first | go_values | go_skip | go_guarded | go_step | go_upon)
    go_loopw [7] (fun tt wr => ∃ j : Nat, tt = .int .i64 (j : Int) ∧ j ≤ n ∧ Below ((w.alloc (.cells #[.int .i64 k, .string (mkS t), .int .u64 (wd x 0), .int .u64 (wd x 1), .int .u64 (wd x 2), .int .u64 (wd x 3), .slice (some ⟨g, o, none⟩) n cap, .int .i64 p] 40)).alloc (.cells #[.int .i64 k, .string (mkS t), .int .u64 (wd x 0), .int .u64 (wd x 1), .int .u64 (wd x 2), .int .u64 (wd x 3), .slice (some ⟨g', o', none⟩) n cap', .int .i64 p] 40)).heap.size ((w.alloc (.cells #[.int .i64 k, .string (mkS t), .int .u64 (wd x 0), .int .u64 (wd x 1), .int .u64 (wd x 2), .int .u64 (wd x 3), .slice (some ⟨g, o, none⟩) n cap, .int .i64 p] 40)).alloc (.cells #[.int .i64 k, .string (mkS t), .int .u64 (wd x 0), .int .u64 (wd x 1), .int .u64 (wd x 2), .int .u64 (wd x 3), .slice (some ⟨g', o', none⟩) n cap', .int .i64 p] 40)) wr) (fun tt _ => n - (intOf tt).toNat)
    case atStart => exact ⟨0, rfl, Nat.zero_le _, Below.refl _ _⟩
    case round =>
      obtain ⟨j, rfl, hj, hbr⟩ := hrel
      have HB := Lib.hid hbr
      have hA := (hbr.block w.heap.size (by simp; omega)).trans ((RowKit.Below.heap_alloc _ _ _ (by simp)).trans (heap_alloc_new w (.cells #[.int .i64 k, .string (mkS t), .int .u64 (wd x 0), .int .u64 (wd x 1), .int .u64 (wd x 2), .int .u64 (wd x 3), .slice (some ⟨g, o, none⟩) n cap, .int .i64 p] 40)))
      have hB := (hbr.block (w.heap.size + 1) (by simp)).trans (allocs_new w (.cells #[.int .i64 k, .string (mkS t), .int .u64 (wd x 0), .int .u64 (wd x 1), .int .u64 (wd x 2), .int .u64 (wd x 3), .slice (some ⟨g, o, none⟩) n cap, .int .i64 p] 40) (.cells #[.int .i64 k, .string (mkS t), .int .u64 (wd x 0), .int .u64 (wd x 1), .int .u64 (wd x 2), .int .u64 (wd x 3), .slice (some ⟨g', o', none⟩) n cap', .int .i64 p] 40))
      have s1 : wr.cell? ⟨w.heap.size, 6, none⟩ = some (.slice (some ⟨g, o, none⟩) n cap) := (cells_at hA).1 6
      have s2 : wr.cell? ⟨w.heap.size + 1, 6, none⟩ = some (.slice (some ⟨g', o', none⟩) n cap') := (cells_at hB).1 6
      have hw : Below w.heap.size w wr := (bal (bal (Below.refl _ w) _) _).trans (hbr.mono (by simp; omega))
      have HW := Lib.hid hw
      clear hA hB hbr hw
      by_cases hlt : j < n
      · obtain ⟨y, hy⟩ : ∃ y, l[j]? = some y := ⟨l[j]'(by rw [HN.out]; exact hlt), List.getElem?_eq_getElem (by rw [HN.out]; exact hlt)⟩
        obtain ⟨y', hy'⟩ : ∃ y', l'[j]? = some y' := ⟨l'[j]'(by rw [HN'.out]; exact hlt), List.getElem?_eq_getElem (by rw [HN'.out]; exact hlt)⟩
        obtain ⟨k1, t1, x1, sa, sn, sc, p1, l1, _, q0, _, a0, a1, a2, a3, a4, a5, a6, a7⟩ := (R1.out.mono (w' := wr) (P' := P) (fun b hb => HW.out.block b (HP.out b hb)) (fun _ h => h) HG.out).get hy
        obtain ⟨k2, t2, x2, sa2, sn2, sc2, p2, l2, _, q0', _, b0, b1, b2, b3, b4, b5, b6, b7⟩ := (R2.out.mono (w' := wr) (P' := P') (fun b hb => HW.out.block b (HP'.out b hb)) (fun _ h => h) HG'.out).get hy'
        have hz := HW.out.size
        have HC := Lib.hid (fun (w' : World) (e : w'.heap = wr.heap) => HI.out y (List.mem_of_getElem? hy) y' w' P P' _ _ (HL.out.get hy hy') (q0.mono (w' := w') (fun b _ => by rw [e]) (fun _ h => h)) (q0'.mono (w' := w') (fun b _ => by rw [e]) (fun _ h => h)) (fun b hb => by rw [e]; exact Nat.lt_of_lt_of_le (HP.out b hb) hz) (fun b hb => by rw [e]; exact Nat.lt_of_lt_of_le (HP'.out b hb) hz))
        clear hy hy' q0 q0'
        have d1 : decide ((j : Int) < n) = true := by simpa using hlt
        repeat (first | go_values | go_skip | go_guarded | go_step | go_upon)
        go_still_tail 11, (by kernel_rfl)
        repeat (first | go_values | go_skip | go_guarded | go_step | go_upon)
        refine (HC.out wr.drew rfl).mono ?_
        rintro e w1 ⟨rfl, hb1⟩
        dsimp only
        repeat (first | go_values | go_skip | go_guarded | go_step | go_upon)
        exact ⟨⟨j + 1, by go_num, by omega, HB.out.trans ((drew_below wr).trans (hb1.mono (by simp)) |>.mono (by have := HB.out.size; simpa using this))⟩, by simp [intOf]; omega⟩
      · have d1 : decide (j < n) = false := by simpa using hlt
        clear hlt
        repeat (first | go_values | go_skip | go_guarded | go_step | go_upon)
        go_ret
        exact ⟨rfl, (bal (bal (Below.refl _ w) _) _).trans (HB.out.mono (by simp; omega))⟩
/-- The contract of SameNode, where two trees are the same. -/
theorem sameT_node (at_ : Bool) : ∀ (k : Nat) (n : Tr), SizeOf.sizeOf n ≤ k → SameCT at_ n := by
  intro k
  induction k with
  | zero => intro n hn; cases n; simp at hn
  | succ k ih =>
    intro n hn m w P P' c c' hs h1 h2 hP hP'
    cases hs with
    | mk hp hl =>
      rename_i kk p p' t x l l'
      cases h1 with
      | mk r1 =>
        cases h2 with
        | mk r2 =>
          have hle := hl.length
          rcases r1.parts with ⟨rfl, rfl⟩ | ⟨rfl, a, cap, rfl⟩ | ⟨g, o, cap, rfl, hg, hpos, hcap, hmax, hr⟩
          · rcases r2.parts with ⟨rfl, rfl⟩ | ⟨rfl, a', cap', rfl⟩ | ⟨g', o', cap', rfl, hg', hpos', hcap', hmax', hr'⟩
            · exact sameT_leaf at_ w hp
            · exact sameT_leaf at_ w hp
            · rw [List.length_nil] at hle; omega
          · rcases r2.parts with ⟨rfl, rfl⟩ | ⟨rfl, a', cap', rfl⟩ | ⟨g', o', cap', rfl, hg', hpos', hcap', hmax', hr'⟩
            · exact sameT_leaf at_ w hp
            · exact sameT_leaf at_ w hp
            · rw [List.length_nil] at hle; omega
          · rcases r2.parts with ⟨rfl, rfl⟩ | ⟨rfl, a', cap', rfl⟩ | ⟨g', o', cap', rfl, hg', hpos', hcap', hmax', hr'⟩
            · rw [List.length_nil] at hle; omega
            · rw [List.length_nil] at hle; omega
            · rw [← hle] at hcap' ⊢
              exact sameT_row at_ w hp hl rfl hcap hcap' hmax hg hg' hr hr' hP hP' (fun m hm => ih m (by
                have e1 : SizeOf.sizeOf m < SizeOf.sizeOf l := List.sizeOf_lt_of_mem hm
                rw [Tr.mk.sizeOf_spec] at hn
                omega))
theorem sameT_any (at_ : Bool) (n : Tr) : SameCT at_ n := sameT_node at_ (SizeOf.sizeOf n) n (Nat.le_refl _)
end Go.Proofs.YtjlcoldnhbkcgaaGreatDoor
namespace Go.Proofs.YtjlcoldnhbkcgaaGreatDoor
open Go.RowKit Go.Sort

theorem RuReps.anyR {w : World} {P : Nat → Prop} {l : List Ru} {cs : List Value} (h : RuReps w P l cs) : ∀ (g o : Nat), (∀ j, j < cs.length → w.cell? ⟨g, o + j, none⟩ = cs[j]?) → RepR w P g o (l.map Ru.rr) := by
  induction h with
  | nil => intro g o _; exact .nil
  | @cons x l c cs h1 h2 ih =>
    intro g o hc
    have h8 : c.length = 8 := h1.length
    have h10 : (Value.string (mkS x.name) :: (c ++ [.int .i64 (x.pos : Int)])).length = 10 := by simp [h8]
    rw [List.map_cons]
    refine .cons (cs := c) (fun j hj => ?_) h1.anyT (ih g (o + 10) (fun j hj => ?_))
    · have := hc j (by rw [List.length_append]; omega)
      rw [List.getElem?_append_left (by omega)] at this
      exact this
    · have := hc (10 + j) (by rw [List.length_append]; omega)
      rw [List.getElem?_append_right (by omega), h10, Nat.add_sub_cancel_left] at this
      rw [← this]
      congr 2
      omega
theorem RuReps.lengths {w : World} {P : Nat → Prop} {l : List Ru} {cs : List Value} (h : RuReps w P l cs) : cs.length = l.length * 10 := by
  induction h with
  | nil => rfl
  | cons h1 _ ih =>
    have h8 := h1.length
    simp [ih, h8]
    omega
theorem GRep.anyG {w : World} {P : Nat → Prop} {gs : List Ru} {v : Value} (h : GRep w P gs v) : RepGr w P (gs.map Ru.rr) v := by
  rcases h with ⟨rfl, rfl⟩ | ⟨b, cap, cur, cs, rfl, h2, h3, h4, hm, h5, h6, h7⟩
  · exact .null
  · have hl := h7.lengths
    have := RepGr.row (w := w) (P := P) (l := gs.map Ru.rr) (g := b) (o := 0) (cap := cap) h2 (by simpa using h5) (by simpa using h4) (by simpa using hm) (h7.anyR b 0 (fun j hj => by
      rw [(cells_at h3).1, ← h6, List.getElem?_take, if_pos (by omega), Array.getElem?_toList, Nat.zero_add]))
    rw [List.length_map] at this
    exact this
end Go.Proofs.YtjlcoldnhbkcgaaGreatDoor
namespace Go.Proofs.YtjlcoldnhbkcgaaGreatDoor
open Go.RowKit Go.Sort

set_option maxRecDepth 100000 in
set_option maxHeartbeats 1600000 in
theorem catch_fault (b2 b3 p : Nat) (v : Value) (older : List PanicEntry) (w : World) (h2 : w.heap[b2]? = some (.cells #[v] 24 (0, 0))) (h3 : w.heap[b3]? = some (.cells #[.nilIface] 28 (0, 0))) (hne : b2 ≠ b3) :
    CallsD Tryz.prog 42 #[.pointer (some ⟨b2, 0, none⟩), .pointer (some ⟨b3, 0, none⟩)] (.panicking ({ v := .iface 79 (.pointer (some ⟨p, 0, none⟩)), recovered := false } :: older)) w fun e u' w' =>
      e = .returned (.tuple #[]) ∧ u' = .panicking ({ v := .iface 79 (.pointer (some ⟨p, 0, none⟩)), recovered := true } :: older) ∧ w' = (w.setCell ⟨b2, 0, none⟩ (.slice none 0 0)).setCell ⟨b3, 0, none⟩ (.iface 79 (.pointer (some ⟨p, 0, none⟩))) := by
  obtain ⟨c2, f2, q2⟩ := cells_at h2
  obtain ⟨c3, f3, q3⟩ := cells_at h3
  have d2 : w.cell? ⟨b2, 0, none⟩ = some v := c2 0
  have d3 : w.cell? ⟨b3, 0, none⟩ = some .nilIface := c3 0
  have d4 : (w.setCell ⟨b2, 0, none⟩ (.slice none 0 0)).cell? ⟨b3, 0, none⟩ = some .nilIface := (cell_set_ne w _ _ b3 0 (fun e => hne (by have e2 : b3 = b2 := e; exact e2.symm))).trans d3
  have hta : ∀ (w : World) (a : Option Addr), (Instr.typeAssert (.iface 79 (.pointer a)) 20 79 true).run Tryz.prog w = .ok (.tuple #[.pointer a, .bool true]) w := fun _ _ => by kernel_rfl
  refine callsD_of_wpS Tryz.func42 rfl fun c₀ cs hu => ?_
  apply wpS_seq
  apply wpS_region
  simp [wpOpsS, go_sem, recoverD, hu, Tryz.ntmps42, Exit.thenS]
  refine wpS_of_wp ?_
  repeat (first | go_values | go_skip | go_guarded | go_step | go_upon)
  refine ⟨rfl, _, rfl, .tuple #[], ?_, rfl, rfl, rfl⟩
  simp [results, Tryz.results42, go_sem]
theorem catch_none (b2 b3 : Nat) (w : World) :
    CallsD Tryz.prog 42 #[.pointer (some ⟨b2, 0, none⟩), .pointer (some ⟨b3, 0, none⟩)] .returning w fun e u' w' => e = .returned (.tuple #[]) ∧ u' = .returning ∧ w' = w := by
  refine callsD_of_wpS Tryz.func42 rfl fun c₀ cs hu => ?_
  apply wpS_seq
  apply wpS_region
  simp [wpOpsS, go_sem, recoverD, hu, Tryz.ntmps42, Exit.thenS]
  refine wpS_of_wp ?_
  repeat (first | go_values | go_skip | go_guarded | go_step | go_upon)
  simp [bodyPostS, results, Tryz.results42, go_sem]
  cases c₀
  simp_all
end Go.Proofs.YtjlcoldnhbkcgaaGreatDoor
namespace Go.Proofs.YtjlcoldnhbkcgaaGreatDoor
open Go.RowKit Go.Sort

/-- What Parse answers. -/
def ParseP (s : List UInt8) (w : World) (e : Ending) (w' : World) : Prop := Below w.heap.size w w' ∧ ∃ r, Reads s r ∧ match r with
  | .inl (c, x) => AnsFaultI c x w (fun v => .tuple #[.agg #[.slice none 0 0], v]) e w'
  | .inr g => ∃ v, e = .returned (.tuple #[.agg #[v], .nilIface]) ∧ GRep w' (Fresh w w') g v
set_option maxRecDepth 100000 in
set_option maxHeartbeats 6400000 in
theorem syn_no (S : ByteArray) (w : World) (hg : Laid w) (hs : S.size ≤ 140737488355328) {er : Nat × Int} (hL : lexed (bl S) = .inl er) :
    Calls Tryz.prog 22 #[.string S] w (ParseP (bl S) w) := by
  have hm1 := cell_alloc_lt
  have hm2 := frozen_alloc_lt
  go_enter_defers Tryz.func22, Tryz.ntmps22
  repeat (first | go_values | go_skip | go_guarded | go_step | go_upon)
  refine (lexed_no S _ (hg.below (bal (bal (Below.refl _ _) _) _) hg.pos) hs hL).mono ?_
  rintro e w1 ⟨⟨p, rfl, hp, hl⟩, hb1⟩
  simp only [World.size_alloc] at hl
  have h2 := (hb1.block w.heap.size (by simp; omega)).trans ((RowKit.Below.heap_alloc _ _ _ (by simp)).trans (heap_alloc_new w (.cells #[.slice none 0 0] 24)))
  have h3 := (hb1.block (w.heap.size + 1) (by simp)).trans (alloc2_new w (.cells #[.slice none 0 0] 24) (.cells #[.nilIface] 28))
  obtain ⟨c2, f2, q2⟩ := cells_at h2
  obtain ⟨c3, f3, q3⟩ := cells_at h3
  have d2 : w1.cell? ⟨w.heap.size, 0, none⟩ = some (.slice none 0 0) := c2 0
  have d3 : w1.cell? ⟨w.heap.size + 1, 0, none⟩ = some .nilIface := c3 0
  have HB := Lib.hid hb1
  have HP := Lib.hid hp
  have HR := Lib.hid (show Reads (bl S) (.inl er) by unfold Reads; rw [hL])
  clear h2 h3 c2 c3 hp hb1 hL
  dsimp only
  repeat (first | go_values | go_skip | go_guarded | go_step | go_upon)
  have d4 : (w1.setCell ⟨w.heap.size + 1, 0, none⟩ (.iface 79 (.pointer (some ⟨p, 0, none⟩)))).cell? ⟨w.heap.size, 0, none⟩ = some (.slice none 0 0) := (cell_set_ne w1 _ _ _ _ (by simp)).trans d2
  go_region
  repeat (first | go_values | go_skip | go_guarded | go_step | go_upon)
  refine ⟨.tuple #[.agg #[.slice none 0 0], .iface 79 (.pointer (some ⟨p, 0, none⟩))], by simp [results, Tryz.results22, go_sem, d2, d3, cell_set_ne], ?_⟩
  have hF : ∀ (w' : World), w'.heap[p]? = w1.heap[p]? → FaultI p er.1 er.2 w' := fun w' h => h.trans HP.out
  refine ⟨?_, .inl er, HR.out, p, rfl, hF _ ?_, by omega⟩
  · refine Below.drew ?_
    refine bset (bset (bset ((bal (bal (Below.refl _ w) _) _).trans (HB.out.mono (by simp; omega))) (by simp) _) (by simp) _) (by simp) _
  · show (((w1.setCell ⟨w.heap.size + 1, 0, none⟩ _).setCell ⟨w.heap.size, 0, none⟩ _).setCell ⟨w.heap.size + 1, 0, none⟩ _).heap[p]? = _
    rw [heap_setCell_other _ _ _ _ (by simp; omega), heap_setCell_other _ _ _ _ (by simp; omega), heap_setCell_other _ _ _ _ (by simp; omega)]
end Go.Proofs.YtjlcoldnhbkcgaaGreatDoor
namespace Go.Proofs.YtjlcoldnhbkcgaaGreatDoor
open Go.RowKit Go.Sort

section
variable {P : Program} {ops : Array Oper} {Q Q' : Exit → Act → World → Prop} {md : Region.Mode} {I : Act → Prop}

theorem wpOp_keep {i : Nat} {K K' : Act → World → Prop} {a : Act} {w : World} (hput : ∀ a v o, ops[i]? = some o → I a → I (a.put o.dst v)) (hdef : ∀ a d, I a → I { a with defers := d :: a.defers })
    (hQ : ∀ c a w, I a → Q' (.panic c) a w → Q (.panic c) a w) (hO : LetsOut Q' → LetsOut Q) (hK : ∀ a w, I a → K a w → K' a w) (ha : I a) (h : wpOp P ops Q' i K a w) : wpOp P ops Q i K' a w := by
  unfold wpOp at *
  cases ho : ops[i]? with
  | none => rw [ho] at h; exact hK _ _ ha h
  | some o =>
    rw [ho] at h
    simp only at h ⊢
    split
    · next hw =>
      rw [if_pos hw] at h
      rcases h with h | ⟨h1, h2⟩
      case inr => exact .inr ⟨h1, hO h2⟩
      refine .inl ?_
      unfold Oper.wp at *
      generalize (execOp a.eval o).run P w = r at *
      cases r with
      | ok n w' =>
        cases n <;> simp only [Oper.upon] at h ⊢
        case value u => exact hK _ _ (hput _ _ _ ho ha) h
        case skip => exact hK _ _ (hput _ _ _ ho ha) h
        case defer d => exact hK _ _ (hput _ _ _ ho (hdef _ _ ha)) h
        case enter f args =>
          refine Calls.mono h fun e w'' he => ?_
          cases e with
          | returned u => exact hK _ _ (hput _ _ _ ho ha) he
          | panicked c => exact hQ _ _ _ ha he
          | outgrown => exact hO he
        case row row args => exact Rows.mono h fun u w'' he => hK _ _ (hput _ _ _ ho ha) he
      | halt x w' =>
        cases x <;> simp only [Oper.upon] at h ⊢
        case panic u => exact hQ _ _ _ ha h
    · next hw =>
      rw [if_neg hw] at h
      exact hK _ _ (hput _ _ _ ho ha) h
theorem wpAny_keep (hput : ∀ (i : Nat) a v o, ops[i]? = some o → I a → I (a.put o.dst v)) (hdef : ∀ a d, I a → I { a with defers := d :: a.defers })
    (hQ : ∀ c a w, I a → Q' (.panic c) a w → Q (.panic c) a w) (hN : ∀ a w, I a → Q' .normal a w → Q .normal a w) (hO : LetsOut Q' → LetsOut Q) :
    ∀ (fuel : Nat) (listed : Array Bool) (a : Act) (w : World), I a → wpAny P md ops Q' fuel listed a w → wpAny P md ops Q fuel listed a w
  | 0, _, _, _, ha, h => ⟨h.1, hN _ _ ha h.2⟩
  | fuel + 1, _, _, _, ha, h => ⟨fun h0 => hN _ _ ha (h.1 h0), fun i hi => wpOp_keep (hput i) hdef hQ hO (fun a' w' ha' h' => wpAny_keep hput hdef hQ hN hO fuel _ a' w' ha' h') ha (h.2 i hi)⟩
end
/-- Two slots hold these. -/
def Holds2 (i j : Nat) (u v : Value) (a : Act) : Prop := a.tmps[i]? = some u ∧ a.tmps[j]? = some v
theorem Holds2.put {i j : Nat} {u v : Value} {a : Act} (h : Holds2 i j u v a) {d : Option Tmp} (hi : d ≠ some i) (hj : d ≠ some j) (x : Value) : Holds2 i j u v (a.put d x) := by
  cases d with
  | none => exact h
  | some k =>
    have h1 : k ≠ i := fun e => hi (by rw [e])
    have h2 : k ≠ j := fun e => hj (by rw [e])
    refine ⟨?_, ?_⟩
    · show (a.tmps.setIfInBounds k x)[i]? = _
      rw [Array.getElem?_setIfInBounds_ne h1]; exact h.1
    · show (a.tmps.setIfInBounds k x)[j]? = _
      rw [Array.getElem?_setIfInBounds_ne h2]; exact h.2
/-- A drawn region in a function that defers: a panic's post is free of the frame, but for what is deferred; two slots that the region does not write are there still. -/
theorem wp_region_free {P : Program} {id : Nat} {ops : Array Oper} {Q : Exit → Act → World → Prop} {S : World → Prop} {a : Act} {w : World} (i j : Nat) (u v : Value) (D : List Deferred) (R : List PanicEntry → World → Prop) (hm : P.follows .mixedOrders = true) (hops : ops.all (fun o => o.dst != some i && o.dst != some j) = true)
    (ha : a.tmps[i]? = some u ∧ a.tmps[j]? = some v) (hQ : ∀ c a w, a.tmps[i]? = some u → a.tmps[j]? = some v → a.defers = D → R c w → Q (.panic c) a w) (hS : S w.drew)
    (h : S w.drew → wpAnyH P .any ops (fun e a w => match e with
      | .panic c => R c w ∧ a.defers = D
      | e => Q e a w) S ops.size (Array.replicate ops.size false) a w.drew) : (Code.region id ops true).wp P Q a w := by
  refine wp_region_any hm (wpAny_keep (I := Holds2 i j u v) (Q' := fun e a w => match e with
      | .panic c => R c w ∧ a.defers = D
      | e => Q e a w) ?_ (fun a d h => h) ?_ (fun _ _ _ h => h) ?_ _ _ _ _ ha (wpAny_of_held _ _ _ _ (h hS)))
  · intro k a v' o ho h
    have h1 := (Array.all_eq_true_iff_forall_mem.1 hops) o (Array.mem_of_getElem? ho)
    simp only [Bool.and_eq_true, bne_iff_ne, ne_eq] at h1
    exact h.put h1.1 h1.2 _
  · rintro c a w ⟨h1, h2⟩ ⟨h3, h4⟩
    exact hQ c a w h1 h2 h4 h3
  · rintro ⟨a, w, h⟩
    exact ⟨a, w, h⟩
end Go.Proofs.YtjlcoldnhbkcgaaGreatDoor
