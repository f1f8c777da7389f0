/- A class's text: plain facts. | The rows of a class are all of it, apart and rising. Plain. | strings.Builder's copyCheck, WriteByte, WriteString at this cut (the loader refuses the panic's way, so the shelf's contracts are not laid): walked here, with the library's own steps; every other block that is no row of bytes stands as it stood. | The walk of Text. | The walk of lex.cutter's method literal. -/
import Derived.Test.YtjlcoldnhbkcgaaGreatDoorG4
import Derived.Test.YtjlcoldnhbkcgaaGreatDoorG0
import Derived.Test.YtjlcoldnhbkcgaaGreatDoorG3
import Derived.Shelf.Strings.BuilderK
import Derived.Test.YtjlcoldnhbkcgaaGreatDoorG7
import Derived.Test.YtjlcoldnhbkcgaaGreatDoorG8
namespace Go.Proofs.YtjlcoldnhbkcgaaGreatDoor
open Go.RowKit

/-- A row's text. -/
def rowT (p : Nat × Nat) : List UInt8 := sgn p.1 ++ ((if p.1 + 1 < p.2 then [45] else []) ++ (if p.1 < p.2 then sgn p.2 else []))
/-- The text of the first k rows. -/
def txK (l : List (Nat × Nat)) : Nat → List UInt8
  | 0 => [91]
  | k + 1 => txK l k ++ rowT (l[k]?.getD (0, 0))
/-- A class's text. -/
def txt (c : BitVec 256) : List UInt8 := txK (runs c) (runs c).length ++ [93]
theorem sgn_len (b : Nat) : 1 ≤ (sgn b).length ∧ (sgn b).length ≤ 4 := by
  unfold sgn; repeat (first | split | simp)
theorem rowT_len (p : Nat × Nat) : (rowT p).length ≤ 9 := by
  have h1 := sgn_len p.1
  have h2 := sgn_len p.2
  unfold rowT
  simp only [List.length_append]
  split <;> split <;> simp <;> omega
theorem txK_len (l : List (Nat × Nat)) : ∀ k, (txK l k).length ≤ 1 + 9 * k := by
  intro k
  induction k with
  | zero => simp [txK]
  | succ k ih =>
    rw [txK, List.length_append]
    have := rowT_len (l[k]?.getD (0, 0))
    omega
theorem txK_succ {l : List (Nat × Nat)} {k : Nat} {p : Nat × Nat} (h : l[k]? = some p) : txK l (k + 1) = txK l k ++ rowT p := by
  rw [txK, h]; rfl
theorem ba_app (a b : List UInt8) : (⟨a.toArray⟩ : ByteArray) ++ ⟨b.toArray⟩ = ⟨(a ++ b).toArray⟩ := by
  apply ByteArray.ext
  simp [ByteArray.data_append]
theorem tx_a (A : List UInt8) (p : Nat × Nat) (h : p.2 = p.1) : (⟨A.toArray⟩ : ByteArray) ++ ⟨(sgn p.1).toArray⟩ = ⟨(A ++ rowT p).toArray⟩ := by
  rw [ba_app, rowT, if_neg (by omega), if_neg (by omega)]
  simp
theorem tx_b (A : List UInt8) (p : Nat × Nat) (h : p.2 = p.1 + 1) : (⟨A.toArray⟩ : ByteArray) ++ ⟨(sgn p.1).toArray⟩ ++ ⟨(sgn p.2).toArray⟩ = ⟨(A ++ rowT p).toArray⟩ := by
  rw [ba_app, ba_app, rowT, if_neg (by omega), if_pos (by omega)]
  simp
theorem tx_c (A : List UInt8) (p : Nat × Nat) (h : p.1 + 1 < p.2) : (⟨A.toArray⟩ : ByteArray) ++ ⟨(sgn p.1).toArray⟩ ++ ⟨#[45]⟩ ++ ⟨(sgn p.2).toArray⟩ = ⟨(A ++ rowT p).toArray⟩ := by
  rw [show (⟨#[45]⟩ : ByteArray) = ⟨[45].toArray⟩ from rfl, ba_app, ba_app, ba_app, rowT, if_pos h, if_pos (by omega)]
  simp
end Go.Proofs.YtjlcoldnhbkcgaaGreatDoor
namespace Go.Proofs.YtjlcoldnhbkcgaaGreatDoor
open Go.RowKit

theorem runsF_bd {c : BitVec 256} : ∀ (f lo : Nat), lo ≤ 256 → 256 < f + lo → (lo < 256 → Has c lo = true) → ∀ p ∈ runsF c f lo, lo ≤ p.1 ∧ p.1 ≤ p.2 ∧ p.2 ≤ 255 := by
  intro f
  induction f with
  | zero => intro lo h1 h2; omega
  | succ f ih =>
    intro lo h1 h2 h3 p hp
    by_cases hlt : lo < 256
    · have hgt := nxt_gt hlt (h3 hlt)
      have hle := nxt_le (c := c) (b := false) h1
      have hge := nxt_ge (c := c) (b := true) hle
      rw [runs_step hlt, List.mem_cons] at hp
      rcases hp with rfl | hp
      · simp only; omega
      · have := ih (nxt c true (nxt c false lo)) (nxt_le hle) (by omega) (fun h => nxt_has hle h) p hp
        omega
    · obtain rfl : lo = 256 := by omega
      rw [runs_end] at hp
      simp at hp
theorem runsF_apart {c : BitVec 256} : ∀ (f lo : Nat), lo ≤ 256 → 256 < f + lo → (lo < 256 → Has c lo = true) → (runsF c f lo).Pairwise (fun p q => p.2 + 1 < q.1) := by
  intro f
  induction f with
  | zero => intro lo h1 h2; omega
  | succ f ih =>
    intro lo h1 h2 h3
    by_cases hlt : lo < 256
    · have hgt := nxt_gt hlt (h3 hlt)
      have hle := nxt_le (c := c) (b := false) h1
      have hge := nxt_ge (c := c) (b := true) hle
      rw [runs_step hlt, List.pairwise_cons]
      refine ⟨fun q hq => ?_, ih _ (nxt_le hle) (by omega) (fun h => nxt_has hle h)⟩
      have hb := runsF_bd f (nxt c true (nxt c false lo)) (nxt_le hle) (by omega) (fun h => nxt_has hle h) q hq
      have hne : nxt c true (nxt c false lo) ≠ nxt c false lo := by
        intro he
        by_cases h5 : nxt c false lo < 256
        · have a1 := nxt_has (c := c) (b := false) h1 h5
          have a2 := nxt_has (c := c) (b := true) hle (by omega)
          rw [he, a1] at a2
          cases a2
        · omega
      simp only
      omega
    · obtain rfl : lo = 256 := by omega
      rw [runs_end]
      exact List.Pairwise.nil
theorem runsF_all {c : BitVec 256} : ∀ (f lo : Nat), lo ≤ 256 → 256 < f + lo → (lo < 256 → Has c lo = true) → ∀ j, lo ≤ j → j < 256 → (Has c j = true ↔ ∃ p ∈ runsF c f lo, p.1 ≤ j ∧ j ≤ p.2) := by
  intro f
  induction f with
  | zero => intro lo h1 h2; omega
  | succ f ih =>
    intro lo h1 h2 h3 j hj hj2
    have hlt : lo < 256 := by omega
    have hgt := nxt_gt hlt (h3 hlt)
    have hle := nxt_le (c := c) (b := false) h1
    have hge := nxt_ge (c := c) (b := true) hle
    have s1 := nxt_spec c false lo h1
    have s2 := nxt_spec c true (nxt c false lo) hle
    rw [runs_step hlt]
    constructor
    · intro hh
      by_cases a : j < nxt c false lo
      · exact ⟨_, List.mem_cons_self, hj, by simp only; omega⟩
      · have hj3 : nxt c true (nxt c false lo) ≤ j := by
          apply Nat.le_of_not_lt
          intro h
          exact s2.2.2.2 j (by omega) h hh
        obtain ⟨p, hp, hp2⟩ := (ih _ (nxt_le hle) (by omega) (fun h => nxt_has hle h) j hj3 hj2).1 hh
        exact ⟨p, List.mem_cons_of_mem _ hp, hp2⟩
    · rintro ⟨p, hp, h4, h5⟩
      rw [List.mem_cons] at hp
      rcases hp with rfl | hp
      · simp only at h4 h5
        have := s1.2.2.2 j hj (by omega)
        simpa using this
      · have hb := runsF_bd f _ (nxt_le hle) (by omega) (fun h => nxt_has hle h) p hp
        exact (ih _ (nxt_le hle) (by omega) (fun h => nxt_has hle h) j (by omega) hj2).2 ⟨p, hp, h4, h5⟩
theorem runs_bd {c : BitVec 256} {p : Nat × Nat} (h : p ∈ runs c) : p.1 ≤ p.2 ∧ p.2 ≤ 255 := (runsF_bd 257 _ (nxt_le (by decide)) (by omega) (fun h => nxt_has (by decide) h) p h).2
theorem runs_apart (c : BitVec 256) : (runs c).Pairwise (fun p q => p.2 + 1 < q.1) := runsF_apart 257 _ (nxt_le (by decide)) (by omega) (fun h => nxt_has (by decide) h)
theorem runs_all (c : BitVec 256) (j : Nat) (hj : j < 256) : Has c j = true ↔ ∃ p ∈ runs c, p.1 ≤ j ∧ j ≤ p.2 := by
  by_cases h : nxt c true 0 ≤ j
  · exact runsF_all 257 _ (nxt_le (by decide)) (by omega) (fun h => nxt_has (by decide) h) j h hj
  · have s := (nxt_spec c true 0 (by decide)).2.2.2 j (by omega) (by omega)
    constructor
    · intro hh; exact absurd hh s
    · rintro ⟨p, hp, h4, h5⟩
      have := (runsF_bd 257 _ (nxt_le (by decide)) (by omega) (fun h => nxt_has (by decide) h) p hp).1
      omega
/-- What the first k rows make. -/
def uni : List (Nat × Nat) → BitVec 256
  | [] => 0#256
  | p :: l => rng p.1 p.2 ||| uni l
theorem has_zero (j : Nat) : Has 0#256 j = false := by simp [Has]
theorem has_uni (l : List (Nat × Nat)) (j : Nat) (hj : j < 256) (hl : ∀ p ∈ l, p.2 ≤ 255) : Has (uni l) j = true ↔ ∃ p ∈ l, p.1 ≤ j ∧ j ≤ p.2 := by
  induction l with
  | nil => simp [uni, has_zero]
  | cons p l ih =>
    rw [uni, has_or, has_rng _ _ _ hj (hl p List.mem_cons_self), Bool.or_eq_true, ih (fun q hq => hl q (List.mem_cons_of_mem _ hq))]
    simp
theorem uni_snoc (l : List (Nat × Nat)) (p : Nat × Nat) (hl : ∀ q ∈ l ++ [p], q.2 ≤ 255) : uni (l ++ [p]) = uni l ||| rng p.1 p.2 := by
  apply cl_ext
  intro k hk
  rw [Bool.eq_iff_iff, has_uni _ _ hk hl, has_or, Bool.or_eq_true, has_uni _ _ hk (fun q hq => hl q (by simp [hq])), has_rng _ _ _ hk (hl p (by simp))]
  simp [or_and_right, exists_or]
theorem uni_runs (c : BitVec 256) : uni (runs c) = c := by
  apply cl_ext
  intro k hk
  rw [Bool.eq_iff_iff, has_uni _ _ hk (fun p hp => (runs_bd hp).2), runs_all c k hk]
end Go.Proofs.YtjlcoldnhbkcgaaGreatDoor
namespace Go.Proofs.YtjlcoldnhbkcgaaGreatDoor
open Go.RowKit Go.Sort

/-- A builder at b that holds these bytes. -/
def Bld (B b : Nat) (bs : List Value) (w : World) : Prop := Lib.IsBuilderF 124 5 B b bs w
/-- What a write leaves as it was. -/
def Oth (b : Nat) (w w' : World) : Prop := Lib.OthersKept 5 (some b) w w'
theorem bld_size : (Tryz.prog.info? 124).map (·.size) = some 2 := by kernel_rfl
theorem bld_lies : liesAt Tryz.prog Tryz.prog.depth 124 (2 / Tryz.prog.cellsOf 124) 0 124 1 = true := by kernel_rfl
theorem bld_byte : (Tryz.prog.info? 5).map (fun i => (i.zero, i.size, i.bytes)) = some (some (.int .u8 0), 1, 1) := by kernel_rfl
set_option maxHeartbeats 1000000 in
set_option maxRecDepth 100000 in
theorem copyCheck_any (B b : Nat) (bs : List Value) (w : World) (h : Bld B b bs w) :
    Calls Tryz.prog 89 #[.pointer (some ⟨b, 0, none⟩)] w fun e w' => e = .returned (.tuple #[]) ∧ Lib.BuilderAtF 124 5 B b (.pointer (some ⟨b, 0, none⟩)) bs w' ∧ Below B w w' ∧ Oth b w w' := by
  obtain ⟨j, hj, hjs⟩ := Option.map_eq_some_iff.1 bld_size
  rcases h with h | h
  · have h0 := h.cell0
    have hsh := h.shape
    have hfz := h.frozen0
    have H := Lib.hid h
    clear h
    go_enter Tryz.func89, Tryz.ntmps89
    go_wp2
    rw [Lib.run_to_unsafe w ⟨b, 0, none⟩ Tryz.underlying121 Tryz.underlying131 hj (by rw [hjs]; decide) hsh (Nat.zero_lt_succ 1)]
    simp only [Result.andThen]
    rw [Oper.upon_value]
    go_wp2
    rw [run_callFunc_extern Tryz.func120 (by kernel_rfl) (by kernel_rfl) (by kernel_rfl) (e := Extern.AbiNoEscape.same) (by kernel_rfl)]
    rw [Lib.run_noEscape]
    simp only [Result.andThen]
    rw [Oper.upon_value]
    go_wp2
    rw [Lib.run_from_unsafe w ⟨b, 0, none⟩ Tryz.underlying131 Tryz.underlying121 hj hsh bld_lies]
    simp only [Result.andThen]
    rw [Oper.upon_value]
    go_wp2
    go_end0
    exact ⟨rfl, H.out.used _, (Below.refl B w).setCell (p := ⟨b, 0, none⟩) H.out.1 _, (Lib.OthersKept.refl _ _ w).setCell ⟨b, 0, none⟩ rfl _⟩
  · have h0 := h.cell0
    have H := Lib.hid h
    clear h
    go_enter Tryz.func89, Tryz.ntmps89
    go_wp2
    rw [Lib.run_neq_ptr_same w _ Tryz.underlying121 hj]
    go_wp2
    go_end0
    exact ⟨rfl, H.out, Below.refl B _, Lib.OthersKept.refl _ _ _⟩
set_option maxHeartbeats 2000000 in
set_option maxRecDepth 100000 in
theorem writeByte_any (B b : Nat) (bs : List Value) (c : Int) (w : World) (h : Bld B b bs w) (hlen : bs.length + 1 ≤ 140737488355328) (hBw : B ≤ w.heap.size) :
    Calls Tryz.prog 70 #[.pointer (some ⟨b, 0, none⟩), .int .u8 c] w fun e w' => e = .returned .nilIface ∧ Bld B b (bs ++ [.int .u8 c]) w' ∧ Below B w w' ∧ Oth b w w' := by
  obtain ⟨i0, hi, hz0, hz1, hz2⟩ := info_parts bld_byte
  have HB := Lib.hid h
  clear h
  go_enter Tryz.func70, Tryz.ntmps70
  repeat (first | go_values | go_skip | go_guarded | go_step | go_upon)
  refine (copyCheck_any B b bs _ HB.out).mono ?_
  rintro e w1 ⟨rfl, h1, hb1, hk1⟩
  obtain ⟨hB, v, hbk, hown, hne⟩ := h1
  have c0 : w1.cell? ⟨b, 0, none⟩ = some (.pointer (some ⟨b, 0, none⟩)) := by rw [Lib.cell_of_heap hbk]; rfl
  have c1 : w1.cell? ⟨b, 1, none⟩ = some v := by rw [Lib.cell_of_heap hbk]; rfl
  dsimp only
  repeat (first | (at_builtin; refine wpList_append_ownF _ rfl _ _ 122 rfl B 5 i0 (.int .u8 0) 1 1 Tryz.underlying122 hi hz0 hz1 hz2 rfl (by decide) _ _ _ rfl (hown.alloc _) ⟨w1.heap.size, 0, none⟩ 1 1 [.int .u8 c] rfl rfl ?c1 ?c2 ?c3 ?c4 ?c5 ?_) | go_values | go_skip | go_guarded | go_step | go_upon)
  case c1 =>
    intro j u hj
    match j, hj with
    | 0, hj => simp at hj; subst hj; simp [Addr.add]
  case c2 => intro u hu; simp at hu; subst hu; rfl
  case c3 => unfold maxLen; omega
  case c4 => omega
  case c5 => have := hb1.size; simp; omega
  intro v' w2 hown' hgrow _
  have hlt : b < w1.heap.size := by
    rcases Nat.lt_or_ge b w1.heap.size with h' | h'
    · exact h'
    · simp [Array.getElem?_eq_none h'] at hbk
  have hb2 : w2.heap[b]? = some (.cells #[.pointer (some ⟨b, 0, none⟩), v] 124 (0, 0)) := by
    rw [hgrow.block b (by simp; omega) (fun e => hne e.symm), Lib.alloc_old w1 _ b hlt]
    exact hbk
  have d0 : w2.cell? ⟨b, 0, none⟩ = some (.pointer (some ⟨b, 0, none⟩)) := by rw [Lib.cell_of_heap hb2]; rfl
  have d1 : w2.cell? ⟨b, 1, none⟩ = some v := by rw [Lib.cell_of_heap hb2]; rfl
  have f1 : w2.frozen? ⟨b, 1, none⟩ = false := Lib.frozen_of_heap hb2 1
  obtain ⟨g, cap, rfl⟩ : ∃ g cap, v' = .slice (some ⟨g, 0, none⟩) (bs.length + 1) cap := by
    rcases hown'.2 with ⟨_, h0⟩ | ⟨g, cap, cur, fz, hv, _⟩
    · omega
    · exact ⟨g, cap, hv⟩
  repeat (first | go_values | go_skip | go_guarded | go_step | go_upon)
  go_ret
  refine ⟨rfl, .inr ?_, ?_, ((hk1.alloc _).grown hgrow (Lib.ownsRowF_kind (hown.alloc _))).setCell ⟨b, 1, none⟩ rfl _⟩
  · exact Lib.BuilderAtF.put (T := 124) (e := 5) hB hb2 (bs' := bs ++ [.int .u8 c]) (by simpa using hown') (by decide)
  · exact ((hb1.alloc (by have := hb1.size; omega) _).grown hgrow (by have := hb1.size; simp; omega) (fun k hk => (hown.lt k hk).1)).setCell (p := ⟨b, 1, none⟩) hB _
set_option maxHeartbeats 2000000 in
set_option maxRecDepth 100000 in
theorem writeString_any (B b : Nat) (bs : List Value) (s : ByteArray) (w : World) (h : Bld B b bs w) (hlen : bs.length + s.size ≤ 140737488355328) (hBw : B ≤ w.heap.size) :
    Calls Tryz.prog 68 #[.pointer (some ⟨b, 0, none⟩), .string s] w fun e w' => e = .returned (.tuple #[.int .i64 s.size, .nilIface]) ∧ Bld B b (bs ++ Lib.strCells s) w' ∧ Below B w w' ∧ Oth b w w' := by
  obtain ⟨i0, hi, hz0, hz1, hz2⟩ := info_parts bld_byte
  have HB := Lib.hid h
  clear h
  go_enter Tryz.func68, Tryz.ntmps68
  repeat (first | go_values | go_skip | go_guarded | go_step | go_upon)
  refine (copyCheck_any B b bs _ HB.out).mono ?_
  rintro e w1 ⟨rfl, h1, hb1, hk1⟩
  obtain ⟨hB, v, hbk, hown, hne⟩ := h1
  have c0 : w1.cell? ⟨b, 0, none⟩ = some (.pointer (some ⟨b, 0, none⟩)) := by rw [Lib.cell_of_heap hbk]; rfl
  have c1 : w1.cell? ⟨b, 1, none⟩ = some v := by rw [Lib.cell_of_heap hbk]; rfl
  dsimp only
  repeat (first | (at_builtin; refine Lib.wpList_append_own_stringF _ rfl _ _ 122 9 rfl B 5 i0 Tryz.underlying122 Tryz.underlying9 hi hz0 hz1 hz2 _ _ _ rfl hown s rfl ?c3 ?c4 ?c5 ?_) | go_values | go_skip | go_guarded | go_step | go_upon)
  case c3 => unfold maxLen; omega
  case c4 => omega
  case c5 => have := hb1.size; omega
  intro v' w2 hown' hgrow _
  have hlt : b < w1.heap.size := by
    rcases Nat.lt_or_ge b w1.heap.size with h' | h'
    · exact h'
    · simp [Array.getElem?_eq_none h'] at hbk
  have hb2 : w2.heap[b]? = some (.cells #[.pointer (some ⟨b, 0, none⟩), v] 124 (0, 0)) := by
    rw [hgrow.block b hlt (fun e => hne e.symm)]
    exact hbk
  have d0 : w2.cell? ⟨b, 0, none⟩ = some (.pointer (some ⟨b, 0, none⟩)) := by rw [Lib.cell_of_heap hb2]; rfl
  have d1 : w2.cell? ⟨b, 1, none⟩ = some v := by rw [Lib.cell_of_heap hb2]; rfl
  have f1 : w2.frozen? ⟨b, 1, none⟩ = false := Lib.frozen_of_heap hb2 1
  obtain ⟨ao, n', cap, rfl⟩ : ∃ ao n' cap, v' = .slice ao n' cap := by
    rcases hown'.2 with ⟨hv, _⟩ | ⟨g, cap, cur, fz, hv, _⟩
    · exact ⟨_, _, _, hv⟩
    · exact ⟨_, _, _, hv⟩
  repeat (first | go_values | go_skip | go_guarded | go_step | go_upon)
  go_ret2
  refine ⟨rfl, .inr ?_, ?_, (hk1.grown hgrow (Lib.ownsRowF_kind hown)).setCell ⟨b, 1, none⟩ rfl _⟩
  · exact Lib.BuilderAtF.put (T := 124) (e := 5) hB hb2 (bs' := bs ++ Lib.strCells s) (by simpa [Lib.strCells_length] using hown') (by decide)
  · exact (hb1.grown hgrow (by have := hb1.size; omega) (fun k hk => (hown.lt k hk).1)).setCell (p := ⟨b, 1, none⟩) hB _
end Go.Proofs.YtjlcoldnhbkcgaaGreatDoor
namespace Go.Proofs.YtjlcoldnhbkcgaaGreatDoor
open Go.RowKit Go.Sort

theorem bld_below {B b : Nat} {bs : List Value} {w w' : World} (h : Bld B b bs w) (hb : Below w.heap.size w w') : Bld B b bs w' := by
  have key : ∀ p, Lib.BuilderAtF 124 5 B b p bs w → Lib.BuilderAtF 124 5 B b p bs w' := by
    rintro p ⟨hB, v, hbk, hown, hne⟩
    have hlt : b < w.heap.size := (Array.getElem?_eq_some_iff.1 hbk).1
    exact ⟨hB, v, (hb.block _ hlt).trans hbk, hown.kept (row := none) ⟨hb.os, hb.tape, hb.output, hb.size, fun k hk _ => hb.block k hk⟩ (by cases v.ownBlock <;> simp), hne⟩
  exact h.elim (fun h => .inl (key _ h)) (fun h => .inr (key _ h))
theorem bld_new (w : World) : Bld w.heap.size w.heap.size [] (w.alloc (.cells #[.pointer none, .slice none 0 0] 124)) :=
  .inl ⟨Nat.le_refl _, _, heap_alloc_new _ _, World.ownsRowF_nil _ _ _ _, by simp [Value.ownBlock]⟩
theorem own_oth {B b : Nat} {v : Value} {n : Nat} {xs : List Value} {w w' : World} (h : w.ownsRow B 196 2 v n xs) (ho : Oth b w w') (hne : b < B) : w'.ownsRow B 196 2 v n xs := by
  refine ⟨h.1, ?_⟩
  rcases h.2 with h | ⟨g, cap, cur, rfl, hg, hc, h4⟩
  · exact .inl h
  · exact .inr ⟨g, cap, cur, rfl, hg, ho g _ hc (by intro e; injection e with e; omega) (by intro c fz e; injection e with _ e; exact absurd e (by decide)), h4⟩
theorem strCells_txt (A : List UInt8) : Lib.strCells ⟨A.toArray⟩ = Lib.byteCells A := rfl
theorem bld_lt {B b : Nat} {bs : List Value} {w : World} (h : Bld B b bs w) : b < w.heap.size := by
  rcases h with ⟨_, v, hbk, _⟩ | ⟨_, v, hbk, _⟩ <;> exact (Array.getElem?_eq_some_iff.1 hbk).1
theorem wb_txt (b : Nat) (A : List UInt8) (c : UInt8) (x : Int) (w : World) (hx : x = c.toNat) (h : Bld b b (Lib.byteCells A) w) (hl : A.length ≤ 100000) :
    Calls Tryz.prog 70 #[.pointer (some ⟨b, 0, none⟩), .int .u8 x] w fun e w' => e = .returned .nilIface ∧ Bld b b (Lib.byteCells (A ++ [c])) w' ∧ Below b w w' ∧ Oth b w w' := by
  subst hx
  refine (writeByte_any b b _ _ w h (by rw [Lib.byteCells_length]; omega) (Nat.le_of_lt (bld_lt h))).mono ?_
  rintro e w' ⟨h1, h2, h3, h4⟩
  exact ⟨h1, by rw [Lib.byteCells_append]; exact h2, h3, h4⟩
theorem ws_txt (b : Nat) (A S : List UInt8) (w : World) (h : Bld b b (Lib.byteCells A) w) (hl : A.length + S.length ≤ 100000) :
    Calls Tryz.prog 68 #[.pointer (some ⟨b, 0, none⟩), .string ⟨S.toArray⟩] w fun e w' => e = .returned (.tuple #[.int .i64 (S.length : Nat), .nilIface]) ∧ Bld b b (Lib.byteCells (A ++ S)) w' ∧ Below b w w' ∧ Oth b w w' := by
  have hs : (⟨S.toArray⟩ : ByteArray).size = S.length := by simp [ByteArray.size]
  refine (writeString_any b b _ _ w h (by rw [Lib.byteCells_length, hs]; omega) (Nat.le_of_lt (bld_lt h))).mono ?_
  rintro e w' ⟨h1, h2, h3, h4⟩
  exact ⟨by rw [h1, hs], by rw [Lib.byteCells_append, ← strCells_txt S]; exact h2, h3, h4⟩
set_option maxRecDepth 100000 in
set_option maxHeartbeats 3200000 in
theorem text_any (c : BitVec 256) (w : World) : Calls Tryz.prog 93 #[.agg #[.int .u64 (wd c 0), .int .u64 (wd c 1), .int .u64 (wd c 2), .int .u64 (wd c 3)]] w (Ans (.string ⟨(txt c).toArray⟩) w) := by
  have hbd : ∀ p ∈ runs c, p.1 ≤ p.2 ∧ p.2 ≤ 255 := fun p hp => runs_bd hp
  have hlen : (runs c).length ≤ 257 := runs_len c 257 _
  have ht : Hid (txt c = txK (runs c) (runs c).length ++ [93]) := Lib.hid rfl
  generalize hl : runs c = l at *
  have hL := Lib.hid hl
  clear hl
  have HN := Lib.hid (bld_new (w.alloc (.cells #[.int .u64 (wd c 0), .int .u64 (wd c 1), .int .u64 (wd c 2), .int .u64 (wd c 3)] 37)))
  go_enter Tryz.func93, Tryz.ntmps93
  repeat (first | go_values | go_skip | go_guarded | go_step | go_upon)
  refine (wb_txt (w.heap.size + 1) [] 91 _ _ rfl (by simpa [Lib.byteCells] using HN.out) (by simp)).mono ?_
  rintro e w1 ⟨rfl, hB1, hb1, ho1⟩
  have cC : ∀ j, w1.cell? ⟨w.heap.size, j, none⟩ = (#[.int .u64 (wd c 0), .int .u64 (wd c 1), .int .u64 (wd c 2), .int .u64 (wd c 3)] : Array Value)[j]? := fun j => (hb1.cell (p := ⟨w.heap.size, j, none⟩) (by simp <;> omega)).trans (by go_simp)
  have q1 : w.heap.size + 1 < w1.heap.size := bld_lt hB1
  dsimp only
  repeat (first | go_values | go_skip | go_guarded | go_step | go_upon)
  refine (runs_any _ _).mono ?_
  rintro e w2 ⟨v, rfl, hown, hb2⟩
  rw [hL.out] at hown
  have hB2 := bld_below hB1 hb2
  have hT2 := hb1.trans (hb2.mono (by omega))
  have hz2 := hb2.size
  dsimp only
  generalize hn : l.length = n at *
  rcases owns_form2 hown with ⟨hn0, hv⟩ | ⟨g, cap, hv⟩
  · subst hv
    subst hn0
    repeat (first | go_values | go_skip | go_guarded | go_step | go_upon)
    refine wp_loop_rounds 1 ?_
    rw [rounds_succ]
    repeat (first | go_values | go_skip | go_guarded | go_step | go_upon)
    refine (wb_txt (w.heap.size + 1) [91] 93 _ _ rfl hB2 (by simp)).mono ?_
    rintro e w3 ⟨rfl, hB3, hb3, ho3⟩
    dsimp only
    repeat (first | go_values | go_skip | go_guarded | go_step | go_upon)
    refine (Tryz.Builder_String_any_k (w.heap.size + 1) (w.heap.size + 1) _ _ hB3 (Nat.le_of_lt (bld_lt hB3))).mono ?_
    rintro e w4 ⟨rfl, hB4, hb4, ho4⟩
    dsimp only
    repeat (first | go_values | go_skip | go_guarded | go_step | go_upon)
    go_ret
    refine ⟨?_, ?_⟩
    · rw [ht.out]; rfl
    · exact ((((Below.refl _ _).alloc (Nat.le_refl _) _).alloc (by simp) _).trans ((hT2.trans (hb3.trans hb4)).mono (by omega)))
  · subst hv
    repeat (first | go_values | go_skip | go_guarded | go_step | go_upon)
    go_loopw [10] (fun t wr => ∃ k : Nat, k ≤ n ∧ t = .int .i64 k ∧ Bld (w.heap.size + 1) (w.heap.size + 1) (Lib.byteCells (txK l k)) wr ∧ wr.ownsRow w1.heap.size 196 2 (.slice (some ⟨g, 0, none⟩) n cap) n (pairs l) ∧ Below (w.heap.size + 1) ((w.alloc (.cells #[.int .u64 (wd c 0), .int .u64 (wd c 1), .int .u64 (wd c 2), .int .u64 (wd c 3)] 37)).alloc (.cells #[.pointer none, .slice none 0 0] 124)) wr) (fun t _ => n - (intOf t).toNat)
    case atStart => exact ⟨0, Nat.zero_le _, rfl, hB2, hown, hT2⟩
    case round =>
      obtain ⟨k, hk, rfl, hB, hor, hbr⟩ := hrel
      by_cases hlt : k < n
      · obtain ⟨p, hp⟩ : ∃ p, l[k]? = some p := ⟨l[k], List.getElem?_eq_getElem (by omega)⟩
        have hpm := List.mem_of_getElem? hp
        have hp2 := hbd p hpm
        have hg := pairs_get l k p hp
        have c0 : wr.cell? ⟨g, k * 2, none⟩ = some (.int .i64 (p.1 : Int)) := by rw [hor.cellAt _ (by omega)]; exact hg.1
        have c1 : wr.cell? ⟨g, k * 2 + 1, none⟩ = some (.int .i64 (p.2 : Int)) := by rw [hor.cellAt _ (by omega)]; exact hg.2
        have gl : g < wr.heap.size := (hor.lt g rfl).2
        have hsu := Lib.hid (txK_succ hp)
        have hk9 := txK_len l k
        have s1 := sgn_len p.1
        have s2 := sgn_len p.2
        clear hbd hg hpm hp hown
        have hkk : p.2 = p.1 ∨ p.2 = p.1 + 1 ∨ p.1 + 1 < p.2 := by omega
        have q0 : w.heap.size + 1 < wr.heap.size := bld_lt hB
        have nb : some wr.heap.size ≠ some (w.heap.size + 1) := by intro e; injection e with e; omega
        have nt : ∀ (cs : Array Value), ∀ c fz, Obj.cells cs 196 (0, 0) ≠ .cells c 5 fz := by intro cs c fz e; injection e with _ e; exact absurd e (by decide)
        rcases hkk with hkk | hkk | hkk
        all_goals
          have HK := Lib.hid hkk
          clear hkk
          repeat (first | go_values | go_skip | go_guarded | go_step | go_upon)
          refine (sign_any p.1 _ (by omega)).mono ?_
          rintro e w4 ⟨rfl, hb4⟩
          obtain ⟨hc4, hf4⟩ := bcell hb4
          have hz4 := hb4.size
          try simp at hz4
          have q4_0 : g < w4.heap.size := by omega
          dsimp only
          repeat (first | go_values | go_skip | go_guarded | go_step | go_upon)
          have hS4 : Below wr.heap.size wr w4 := (by repeat (first | exact Below.refl _ _ | assumption | refine bal ?_ _ | refine bdr ?_ | refine bdrn ?_ _ | (refine bset ?_ (by first | exact Nat.le_refl _ | (simp; done) | (simp; omega) | omega) _) | refine bstep ?_ (by assumption)))
          have hB4 := bld_below hB hS4
          have hor4 := owns_below hor hS4
          have hbx4 : w4.heap[wr.heap.size]? = some (.cells #[.int .i64 (p.1 : Int), .int .i64 (p.2 : Int)] 196 (0, 0)) := (hb4.block _ (by simp)).trans (heap_alloc_new _ _)
          refine (ws_txt (w.heap.size + 1) (txK l k) (sgn p.1) _ hB4 (by omega)).mono ?_
          rintro e w5 ⟨rfl, hB5, hb5, ho5⟩
          dsimp only
          have hor5 := own_oth hor4 ho5 (by omega)
          have hbx5 := ho5 _ _ hbx4 nb (nt _)
          obtain ⟨cb5, fb5, zb5⟩ := cells_at hbx5
          have hT5 := (hbr.trans (hS4.mono (by omega))).trans hb5
        · have hkk := HK.out
          have e1 : ((p.2 : Int) - p.1 == 1) = false := by simp; omega
          have e0 : ((p.2 : Int) - p.1 == 0) = true := by simp; omega
          have hx := Lib.hid (show rowT p = sgn p.1 by rw [rowT, if_neg (by omega), if_neg (by omega)]; simp)
          clear hkk
          repeat (first | go_values | go_skip | go_guarded | go_step | go_upon)
          refine ⟨⟨k + 1, by omega, by go_num, ?_, hor5, hT5⟩, by simp [intOf]; omega⟩
          rw [hsu.out, hx.out]
          exact hB5
        · have hkk := HK.out
          have e1 : ((p.2 : Int) - p.1 == 1) = true := by simp; omega
          have hx := Lib.hid (show rowT p = sgn p.1 ++ sgn p.2 by rw [rowT, if_neg (by omega), if_pos (by omega)]; simp)
          clear hkk
          repeat (first | go_values | go_skip | go_guarded | go_step | go_upon)
          refine (sign_any p.2 _ (by omega)).mono ?_
          rintro e w6 ⟨rfl, hb6⟩
          obtain ⟨hc6, hf6⟩ := bcell hb6
          have hz6 := hb6.size
          try simp at hz6
          have q6_0 : wr.heap.size < w6.heap.size := by omega
          dsimp only
          repeat (first | go_values | go_skip | go_guarded | go_step | go_upon)
          have hB6 := bld_below hB5 hb6
          have hor6 := owns_below hor5 hb6
          refine (ws_txt (w.heap.size + 1) (txK l k ++ sgn p.1) (sgn p.2) _ hB6 (by simp; omega)).mono ?_
          rintro e w7 ⟨rfl, hB7, hb7, ho7⟩
          dsimp only
          have hor7 := own_oth hor6 ho7 (by omega)
          have hT7 := (hT5.trans (hb6.mono (by omega))).trans hb7
          repeat (first | go_values | go_skip | go_guarded | go_step | go_upon)
          refine ⟨⟨k + 1, by omega, by go_num, ?_, hor7, hT7⟩, by simp [intOf]; omega⟩
          rw [hsu.out, hx.out, ← List.append_assoc]
          exact hB7
        · have hkk := HK.out
          have e1 : ((p.2 : Int) - p.1 == 1) = false := by simp; omega
          have e0 : ((p.2 : Int) - p.1 == 0) = false := by simp; omega
          have hx := Lib.hid (show rowT p = sgn p.1 ++ ([45] ++ sgn p.2) by rw [rowT, if_pos hkk, if_pos (by omega)])
          clear hkk
          repeat (first | go_values | go_skip | go_guarded | go_step | go_upon)
          refine (wb_txt (w.heap.size + 1) (txK l k ++ sgn p.1) 45 _ _ rfl hB5 (by simp; omega)).mono ?_
          rintro e w6 ⟨rfl, hB6, hb6, ho6⟩
          dsimp only
          have hor6 := own_oth hor5 ho6 (by omega)
          have hbx6 := ho6 _ _ hbx5 nb (nt _)
          clear cb5 fb5 zb5
          obtain ⟨cb6, fb6, zb6⟩ := cells_at hbx6
          repeat (first | go_values | go_skip | go_guarded | go_step | go_upon)
          refine (sign_any p.2 _ (by omega)).mono ?_
          rintro e w7 ⟨rfl, hb7⟩
          obtain ⟨hc7, hf7⟩ := bcell hb7
          have hz7 := hb7.size
          try simp at hz7
          have q7_0 : wr.heap.size < w7.heap.size := by omega
          dsimp only
          repeat (first | go_values | go_skip | go_guarded | go_step | go_upon)
          have hB7 := bld_below hB6 hb7
          have hor7 := owns_below hor6 hb7
          refine (ws_txt (w.heap.size + 1) (txK l k ++ sgn p.1 ++ [45]) (sgn p.2) _ hB7 (by simp; omega)).mono ?_
          rintro e w8 ⟨rfl, hB8, hb8, ho8⟩
          dsimp only
          have hor8 := own_oth hor7 ho8 (by omega)
          have hT8 := ((hT5.trans hb6).trans (hb7.mono (by omega))).trans hb8
          repeat (first | go_values | go_skip | go_guarded | go_step | go_upon)
          refine ⟨⟨k + 1, by omega, by go_num, ?_, hor8, hT8⟩, by simp [intOf]; omega⟩
          rw [hsu.out, hx.out, ← List.append_assoc, ← List.append_assoc]
          exact hB8
      · have hkn := Lib.hid (show k = n by omega)
        have hk9 := txK_len l k
        repeat (first | go_values | go_skip | go_guarded | go_step | go_upon)
        refine (wb_txt (w.heap.size + 1) (txK l k) 93 _ _ rfl hB (by omega)).mono ?_
        rintro e w3 ⟨rfl, hB3, hb3, ho3⟩
        dsimp only
        repeat (first | go_values | go_skip | go_guarded | go_step | go_upon)
        refine (Tryz.Builder_String_any_k (w.heap.size + 1) (w.heap.size + 1) _ _ hB3 (Nat.le_of_lt (bld_lt hB3))).mono ?_
        rintro e w4 ⟨rfl, hB4, hb4, ho4⟩
        dsimp only
        repeat (first | go_values | go_skip | go_guarded | go_step | go_upon)
        go_ret
        refine ⟨?_, ?_⟩
        · rw [ht.out, ← hkn.out]; rfl
        · exact ((((Below.refl _ _).alloc (Nat.le_refl _) _).alloc (by simp) _).trans ((hbr.trans (hb3.trans hb4)).mono (by omega)))
end Go.Proofs.YtjlcoldnhbkcgaaGreatDoor
namespace Go.Proofs.YtjlcoldnhbkcgaaGreatDoor
open Go.RowKit Go.Sort

/-- The cutter has one more token, or what is wrong. -/
def CutP (C : Nat) (S : ByteArray) (l : List Tok) (w : World) (g : Got Tok) (e : Ending) (w' : World) : Prop :=
  match g with
  | .inr (t, n) => e = .returned .nilIface ∧ CU C S n (l ++ [t]) w' ∧ Below C w w'
  | .inl er => AnsFault er w id e w' ∧ Below C w w'
theorem CutP.no {C : Nat} {S : ByteArray} {l : List Tok} {w w' : World} {g : Got Tok} {er : Nat × Nat} {e : Ending} {p : Nat} (hg : g = .inl er) (he : e = .returned (.iface 79 (.pointer (some ⟨p, 0, none⟩)))) (hp : FaultAt p er w') (hl : w.heap.size ≤ p) (h : Below C w w') :
    CutP C S l w g e w' := by
  subst hg; exact ⟨⟨p, he, hp, hl⟩, h⟩
theorem CutP.ok {C : Nat} {S : ByteArray} {l : List Tok} {w w' : World} {g : Got Tok} {e : Ending} {t : Tok} {n : Nat} (hg : g = .inr (t, n)) (he : e = .returned .nilIface) (hc : CU C S n (l ++ [t]) w') (h : Below C w w') : CutP C S l w g e w' := by
  subst hg; exact ⟨he, hc, h⟩
/-- What a literal comes to. -/
def litTok (a : Nat) (g : Got (List UInt8)) : Got Tok := match g with
  | .inl e => .inl e
  | .inr (l, n) => .inr (⟨3, l, 0, a⟩, n)
theorem lit_out {s : List UInt8} {q st f k : Nat} {l : List UInt8} (h : s.length ≤ k) : litGo s q st (f + 1) k l = .inl (3, s.length) := by rw [litGo, if_pos h]
theorem lit_end {s : List UInt8} {q st f k : Nat} {l : List UInt8} (h : k < s.length) (hq : byteAt s k = q) : litGo s q st (f + 1) k l = .inr (l, k + 1) := by rw [litGo, if_neg (by omega), if_pos hq]
theorem lit_bad {s : List UInt8} {q st f k : Nat} {l : List UInt8} {er : Nat × Nat} (h : k < s.length) (hq : byteAt s k ≠ q) (hc : lchAt s k = .inl er) : litGo s q st (f + 1) k l = .inl er := by rw [litGo, if_neg (by omega), if_neg hq, hc]
theorem lit_long {s : List UInt8} {q st f k c n : Nat} {l : List UInt8} (h : k < s.length) (hq : byteAt s k ≠ q) (hc : lchAt s k = .inr (c, n)) (hl : l.length = 255) : litGo s q st (f + 1) k l = .inl (2, st) := by
  rw [litGo, if_neg (by omega), if_neg hq, hc]; simp only; rw [if_pos hl]
theorem lit_on {s : List UInt8} {q st f k c n : Nat} {l : List UInt8} (h : k < s.length) (hq : byteAt s k ≠ q) (hc : lchAt s k = .inr (c, n)) (hl : l.length ≠ 255) : litGo s q st (f + 1) k l = litGo s q st f n (l ++ [c.toUInt8]) := by
  rw [litGo, if_neg (by omega), if_neg hq, hc]; simp only; rw [if_neg hl]
theorem add_as (C : Nat) (S : ByteArray) (a : Nat) (l : List Tok) (k : Nat) (x : List UInt8) (e : Int) (n : Nat) (w : World) (h : CU C S a l w) (hx : e = n) (hl : l.length ≤ 100000) :
    Calls Tryz.prog 59 #[.pointer (some ⟨C, 0, none⟩), .agg #[.int .i64 (k : Int), .string ⟨x.toArray⟩, .int .u64 0, .int .u64 0, .int .u64 0, .int .u64 0, .int .i64 0], .int .i64 e] w fun e w' => e = .returned (.tuple #[]) ∧ CU C S n (l ++ [⟨k, x, 0, a⟩]) w' ∧ Below C w w' := by
  have := add_any C S a l ⟨k, x, 0#256, a⟩ 0 e n w h hx rfl hl
  simp only [wd_zero, mkS] at this
  exact this
theorem wb_nat (b : Nat) (A : List UInt8) (c : Nat) (w : World) (hc : c < 256) (h : Bld b b (Lib.byteCells A) w) (hl : A.length ≤ 100000) :
    Calls Tryz.prog 70 #[.pointer (some ⟨b, 0, none⟩), .int .u8 (c : Int)] w fun e w' => e = .returned .nilIface ∧ Bld b b (Lib.byteCells (A ++ [c.toUInt8])) w' ∧ Below b w w' ∧ Oth b w w' :=
  wb_txt b A c.toUInt8 c w (by simp; omega) h hl
theorem len_bld (b : Nat) (A : List UInt8) (w : World) (h : Bld b b (Lib.byteCells A) w) : Calls Tryz.prog 94 #[.pointer (some ⟨b, 0, none⟩)] w fun e w' => e = .returned (.int .i64 (A.length : Int)) ∧ w = w' := by
  refine (Tryz.Builder_Len_f b b _ w h).mono ?_
  rintro e w' ⟨rfl, rfl⟩
  exact ⟨by rw [Lib.byteCells_length], rfl⟩
set_option maxRecDepth 100000 in
set_option maxHeartbeats 6400000 in
theorem literal_any (C : Nat) (S : ByteArray) (a : Nat) (l : List Tok) (w : World) (h : CU C S a l w) (hs : S.size ≤ 100000) (ha : a < S.size) (hll : l.length ≤ 100000) (_ : S[a].toNat = 39 ∨ S[a].toNat = 34) :
    Calls Tryz.prog 84 #[.pointer (some ⟨C, 0, none⟩)] w (CutP C S l w (litTok a (litGo (bl S) S[a].toNat a ((bl S).length + 1) (a + 1) []))) := by
  have hlen := bl_length S
  have hs2 : S.size ≤ 140737488355328 := by omega
  have HC := Lib.hid h
  have hlt := h.lt
  obtain ⟨c0, c1⟩ := h.cells
  have HB := Lib.hid (bld_below (bld_new w) (drew_below _))
  clear h
  generalize hG : litGo (bl S) S[a].toNat a ((bl S).length + 1) (a + 1) [] = G
  have HG := Lib.hid hG
  clear hG
  go_enter Tryz.func84, Tryz.ntmps84
  repeat (first | go_values | go_skip | go_guarded | go_step | go_upon)
  go_region
  repeat (first | go_values | go_skip | go_guarded | go_step | go_upon)
  go_loopw [5] (fun t wr => ∃ (f k : Nat) (acc : List UInt8), t = .int .i64 (k : Int) ∧ Bld w.heap.size w.heap.size (Lib.byteCells acc) wr ∧ Below w.heap.size w wr ∧ Hid (litGo (bl S) S[a].toNat a f k acc = G) ∧ (bl S).length < f + k ∧ acc.length ≤ 255 ∧ k ≤ S.size) (fun t _ => S.size + 1 - (intOf t).toNat)
  case atStart => exact ⟨_, a + 1, [], by go_num, HB.out, ((Below.refl _ _).alloc (Nat.le_refl _) _).drew, HG, by omega, by simp, by omega⟩
  case round =>
    obtain ⟨f, k, acc, rfl, hB, hb, hG, hf, hacc, hk⟩ := hrel
    obtain ⟨f, rfl⟩ : ∃ g, f = g + 1 := ⟨f - 1, by omega⟩
    have u := HC.out.below hb
    obtain ⟨d0, d1⟩ := u.cells
    have qB := bld_lt hB
    rcases Nat.lt_or_ge k S.size with hlk | hge
    · have hv := byteAt_ba hlk
      have h256 := UInt8.toNat_lt S[k]
      have k1 : decide (S.size ≤ k) = false := by simp; omega
      by_cases hx : S[k].toNat = S[a].toNat
      · have HX := Lib.hid (show G = .inr (acc, k + 1) by rw [← hG.out, lit_end (by omega) (by rw [hv]; exact hx)])
        have m1 : ((S[k].toNat : Int) == (S[a].toNat : Int)) = true := by simp; omega
        clear hx hv
        repeat (first | go_values | go_skip | go_guarded | go_step | go_upon)
        refine (Tryz.Builder_String_any_k w.heap.size w.heap.size acc _ hB (Nat.le_of_lt qB)).mono ?_
        rintro e w4 ⟨rfl, hB4, hb4, ho4⟩
        have u4 := HC.out.below (hb.trans hb4)
        dsimp only
        repeat (first | go_values | go_skip | go_guarded | go_step | go_upon)
        refine (add_as C S a l 3 acc _ (k + 1) _ u4 (by omega) hll).mono ?_
        rintro e w5 ⟨rfl, u5, hb5⟩
        dsimp only
        repeat (first | go_values | go_skip | go_guarded | go_step | go_upon)
        go_ret
        exact CutP.ok (by rw [HX.out]; rfl) rfl u5 (((hb.trans hb4).mono (Nat.le_of_lt hlt)).trans hb5)
      · have m1 : ((S[k].toNat : Int) == (S[a].toNat : Int)) = false := by simp; omega
        by_cases h92 : S[k].toNat = 92
        · have m2 : ((S[k].toNat : Int) == 92) = true := by simp; omega
          have hlc : lchAt (bl S) k = lescAt (bl S) (k + 1) := by rw [lchAt, hv, if_pos h92]
          cases he : lescAt (bl S) (k + 1) with
          | inl er =>
            have HX := Lib.hid (show G = .inl er by rw [← hG.out, lit_bad (by omega) (by rw [hv]; exact hx) (hlc.trans he)])
            have HE := Lib.hid he
            clear hx hv he hlc h92
            repeat (first | go_values | go_skip | go_guarded | go_step | go_upon)
            refine (escape_no C S a l k _ u hs2 (by omega) HE.out).mono ?_
            rintro e w5 ⟨⟨p, rfl, hp, hl⟩, hb5⟩
            dsimp only
            repeat (first | go_values | go_skip | go_guarded | go_step | go_upon)
            go_ret
            exact CutP.no (by rw [HX.out]; rfl) rfl hp (Nat.le_trans hb.size hl) ((hb.mono (Nat.le_of_lt hlt)).trans (hb5.mono (by have := hb.size; omega)))
          | inr q =>
            obtain ⟨c, n⟩ := q
            have bd := lescAt_bd he
            have HE := Lib.hid he
            have d3 : decide ((S[k].toNat : Int) < 32) = false := by simp; omega
            have d4 : decide ((126 : Int) < S[k].toNat) = false := by simp; omega
            by_cases h255 : acc.length = 255
            · have HX := Lib.hid (show G = .inl (2, a) by rw [← hG.out, lit_long (by omega) (by rw [hv]; exact hx) (hlc.trans he) h255])
              have d5 : ((acc.length : Int) == 255) = true := by simp; omega
              clear hx hv he hlc h92 h255
              repeat (first | go_values | go_skip | go_guarded | go_step | go_upon)
              refine (escape_ok C S a l k _ u hs2 (by omega) HE.out).mono ?_
              rintro e w5 ⟨rfl, hb5⟩
              have u5 := u.below hb5
              obtain ⟨e0, e1⟩ := u5.cells
              have hB5 := bld_below hB hb5
              have hbb := bstep hb hb5
              dsimp only
              repeat (first | go_values | go_skip | go_guarded | go_step | go_upon)
              refine (len_bld w.heap.size acc _ hB5).mono ?_
              rintro e w6 ⟨rfl, rfl⟩
              dsimp only
              repeat (first | go_values | go_skip | go_guarded | go_step | go_upon)
              refine (fault_any _ _ (2, a) _ rfl rfl).mono ?_
              rintro e w9 ⟨⟨p, rfl, hp, hl⟩, hb9⟩
              dsimp only [id]
              repeat (first | go_values | go_skip | go_guarded | go_step | go_upon)
              go_ret
              exact CutP.no (by rw [HX.out]; rfl) rfl hp (Nat.le_trans hbb.size hl) ((hbb.mono (Nat.le_of_lt hlt)).trans (hb9.mono (by have := hbb.size; omega)))
            · have HX := Lib.hid (show litGo (bl S) S[a].toNat a f n (acc ++ [c.toUInt8]) = G by rw [← hG.out, lit_on (by omega) (by rw [hv]; exact hx) (hlc.trans he) h255])
              have d5 : ((acc.length : Int) == 255) = false := by simp; omega
              clear hx hv he hlc h92
              repeat (first | go_values | go_skip | go_guarded | go_step | go_upon)
              refine (escape_ok C S a l k _ u hs2 (by omega) HE.out).mono ?_
              rintro e w5 ⟨rfl, hb5⟩
              have u5 := u.below hb5
              obtain ⟨e0, e1⟩ := u5.cells
              have hB5 := bld_below hB hb5
              have hbb := bstep hb hb5
              dsimp only
              repeat (first | go_values | go_skip | go_guarded | go_step | go_upon)
              refine (len_bld w.heap.size acc _ hB5).mono ?_
              rintro e w6 ⟨rfl, rfl⟩
              dsimp only
              repeat (first | go_values | go_skip | go_guarded | go_step | go_upon)
              refine (wb_nat w.heap.size acc c _ bd.1 hB5 (by omega)).mono ?_
              rintro e w7 ⟨rfl, hB7, hb7, ho7⟩
              dsimp only
              repeat (first | go_values | go_skip | go_guarded | go_step | go_upon)
              exact ⟨⟨f, n, acc ++ [(c).toUInt8], by first | rfl | go_num, hB7, hbb.trans hb7, HX, by omega, by simp; omega, by omega⟩, by simp [intOf]; omega⟩
        · have m2 : ((S[k].toNat : Int) == 92) = false := by simp; omega
          by_cases hbad : S[k].toNat < 32 ∨ 126 < S[k].toNat
          · have HX := Lib.hid (show G = .inl (4, k) by rw [← hG.out, lit_bad (by omega) (by rw [hv]; exact hx) (by rw [lchAt, hv, if_neg h92, if_pos hbad])])
            have hw := wrongAt_bin hlk
            have HW := Lib.hid hw
            have hdd : (decide ((S[k].toNat : Int) < 32) = true) ∨ (decide ((S[k].toNat : Int) < 32) = false ∧ decide ((126 : Int) < S[k].toNat) = true) := by
              simp only [decide_eq_true_eq, decide_eq_false_iff_not]; omega
            clear hx hv h92 hbad hw
            rcases hdd with d3 | ⟨d3, d4⟩
            all_goals
              repeat (first | go_values | go_skip | go_guarded | go_step | go_upon)
              refine (lwrong_any C S a l _ (k) _ u (by omega) hs2).mono ?_
              rintro e w9 ⟨⟨p, rfl, hp, hl⟩, hb9⟩
              dsimp only [id]
              repeat (first | go_values | go_skip | go_guarded | go_step | go_upon)
              go_ret
              rw [HW.out] at hp
              exact CutP.no (by rw [HX.out]; rfl) rfl hp (Nat.le_trans hb.size hl) ((hb.mono (Nat.le_of_lt hlt)).trans (hb9.mono (by have := hb.size; omega)))
          · have hlc : lchAt (bl S) k = .inr (S[k].toNat, k + 1) := by rw [lchAt, hv, if_neg h92, if_neg hbad]
            have d3 : decide ((S[k].toNat : Int) < 32) = false := by simp; omega
            have d4 : decide ((126 : Int) < S[k].toNat) = false := by simp; omega
            by_cases h255 : acc.length = 255
            · have HX := Lib.hid (show G = .inl (2, a) by rw [← hG.out, lit_long (by omega) (by rw [hv]; exact hx) hlc h255])
              have d5 : ((acc.length : Int) == 255) = true := by simp; omega
              clear hx hv hlc h92 h255 hbad
              repeat (first | go_values | go_skip | go_guarded | go_step | go_upon)
              refine (len_bld w.heap.size acc _ hB).mono ?_
              rintro e w6 ⟨rfl, rfl⟩
              dsimp only
              repeat (first | go_values | go_skip | go_guarded | go_step | go_upon)
              refine (fault_any _ _ (2, a) _ rfl rfl).mono ?_
              rintro e w9 ⟨⟨p, rfl, hp, hl⟩, hb9⟩
              dsimp only [id]
              repeat (first | go_values | go_skip | go_guarded | go_step | go_upon)
              go_ret
              exact CutP.no (by rw [HX.out]; rfl) rfl hp (Nat.le_trans hb.size hl) ((hb.mono (Nat.le_of_lt hlt)).trans (hb9.mono (by have := hb.size; omega)))
            · have HX := Lib.hid (show litGo (bl S) S[a].toNat a f (k + 1) (acc ++ [S[k].toNat.toUInt8]) = G by rw [← hG.out, lit_on (by omega) (by rw [hv]; exact hx) hlc h255])
              have d5 : ((acc.length : Int) == 255) = false := by simp; omega
              clear hx hv hlc h92 hbad
              repeat (first | go_values | go_skip | go_guarded | go_step | go_upon)
              refine (len_bld w.heap.size acc _ hB).mono ?_
              rintro e w6 ⟨rfl, rfl⟩
              dsimp only
              repeat (first | go_values | go_skip | go_guarded | go_step | go_upon)
              refine (wb_nat w.heap.size acc S[k].toNat _ h256 hB (by omega)).mono ?_
              rintro e w7 ⟨rfl, hB7, hb7, ho7⟩
              dsimp only
              repeat (first | go_values | go_skip | go_guarded | go_step | go_upon)
              exact ⟨⟨f, k + 1, acc ++ [(S[k].toNat).toUInt8], by first | rfl | go_num, hB7, hb.trans hb7, HX, by omega, by simp; omega, by omega⟩, by simp [intOf]; omega⟩
    · have HX := Lib.hid (show G = .inl (3, S.size) by rw [← hG.out, lit_out (by omega), hlen])
      have HW := Lib.hid (wrongAt_bout hge)
      have k1 : decide (S.size ≤ k) = true := by simpa using hge
      repeat (first | go_values | go_skip | go_guarded | go_step | go_upon)
      refine (lwrong_any C S a l _ (k) _ u (by omega) hs2).mono ?_
      rintro e w9 ⟨⟨p, rfl, hp, hl⟩, hb9⟩
      dsimp only [id]
      repeat (first | go_values | go_skip | go_guarded | go_step | go_upon)
      go_ret
      rw [HW.out] at hp
      exact CutP.no (by rw [HX.out]; rfl) rfl hp (Nat.le_trans hb.size hl) ((hb.mono (Nat.le_of_lt hlt)).trans (hb9.mono (by have := hb.size; omega)))
end Go.Proofs.YtjlcoldnhbkcgaaGreatDoor
