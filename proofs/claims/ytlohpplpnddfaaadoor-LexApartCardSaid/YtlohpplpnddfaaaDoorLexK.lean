/- The walk of lex.cutter's method class. -/
import Derived.Test.YtlohpplpnddfaaaDoorLexL
import Derived.Test.YtlohpplpnddfaaaDoorParN
import Derived.Test.YtlohpplpnddfaaaDoorAsV
import Derived.Outline
import Derived.StillTailTactics
import Derived.Deep.RegionHeld3
namespace Go.Proofs.YtlohpplpnddfaaaDoor
open Go.RowKit Go.Sort

set_option maxRecDepth 100000 in
set_option maxHeartbeats 800000 in
theorem as_nil (v : Value) (w : World) : Calls Tryd.prog 50 #[.nilIface, v] w (Ans (.bool false) w) := by
  go_enter Tryd.func50, Tryd.ntmps50
  repeat (first | go_values | go_skip | go_guarded | go_step | go_upon)
  go_ret
  exact ⟨rfl, (by repeat (first | exact Below.refl _ _ | assumption | refine bal ?_ _ | refine bdr ?_ | refine bdrn ?_ _ | (refine bset ?_ (by first | exact Nat.le_refl _ | (simp; done) | (simp; omega) | omega) _) | refine bstep ?_ (by assumption)))⟩
theorem as_new (p tb : Nat) (w : World) (hg : Laid w) (h : tb = w.heap.size) :
    Calls Tryd.prog 50 #[.iface 90 (.pointer (some ⟨p, 0, none⟩)), .iface 91 (.pointer (some ⟨tb, 0, none⟩))] (w.alloc (.cells #[.pointer none] 90)) fun ev w' => ev = .returned (.bool true) ∧ Below w.heap.size w w' ∧ w'.cell? ⟨tb, 0, none⟩ = some (.pointer (some ⟨p, 0, none⟩)) := by
  subst h
  refine (as_FF p w.heap.size (.pointer none) _ (hg.below ((Below.refl _ _).alloc (Nat.le_refl _) _) hg.pos) (by simp) (by simp)).mono ?_
  rintro e w' ⟨b, rfl, rfl, hgr, hc⟩
  exact ⟨rfl, below_gr (bal (Below.refl _ _) _) hgr (Nat.le_refl _), hc⟩
/-- What a class comes to. -/
def clsTok (a : Nat) (g : Got (BitVec 256)) : Got Tok := match g with
  | .inl (e, n) => .inl (e, a + n)
  | .inr (c, n) => .inr (⟨4, [], c, a⟩, a + n)
theorem kbl_extract (A : ByteArray) (a : Nat) (_ : a ≤ A.size) : bl (A.extract a A.size) = (bl A).drop a := by
  have e : bl (A.extract a A.size) = List.take (A.size - a) ((bl A).drop a) := by simp [bl, ByteArray.data_extract]
  rw [e]
  exact List.take_of_length_le (by rw [List.length_drop, bl_length]; exact Nat.le_refl _)
theorem kbl_size (A : ByteArray) (a : Nat) (h : a ≤ A.size) : (A.extract a A.size).size = A.size - a := by
  rw [← bl_length, kbl_extract A a h, List.length_drop, bl_length]
theorem add_ac (C : Nat) (S : ByteArray) (a : Nat) (l : List Tok) (c : BitVec 256) (e : Int) (n : Nat) (w : World) (h : CU C S a l w) (hx : e = n) (hl : l.length ≤ 100000) :
    Calls Tryd.prog 65 #[.pointer (some ⟨C, 0, none⟩), .agg #[.int .i64 4, .string ⟨#[]⟩, .int .u64 (wd c 0), .int .u64 (wd c 1), .int .u64 (wd c 2), .int .u64 (wd c 3), .int .i64 0], .int .i64 e] w fun e w' => e = .returned (.tuple #[]) ∧ CU C S n (l ++ [⟨4, [], c, a⟩]) w' ∧ Below C w w' :=
  add_any C S a l ⟨4, [], c, a⟩ 0 e n w h hx rfl hl
set_option maxRecDepth 100000 in
set_option maxHeartbeats 3200000 in
theorem class_any (C : Nat) (S : ByteArray) (a : Nat) (l : List Tok) (w : World) (hg : Laid w) (h : CU C S a l w) (hs : S.size ≤ 100000) (ha : a < S.size) (hll : l.length ≤ 100000) :
    Calls Tryd.prog 89 #[.pointer (some ⟨C, 0, none⟩)] w (CutP C S l w (clsTok a (parsed ((bl S).drop a)))) := by
  have hlen := bl_length S
  have HC := Lib.hid h
  have HL := Lib.hid hg
  have hlt := h.lt
  obtain ⟨c0, c1⟩ := h.cells
  have hsz := kbl_size S a (by omega)
  have HZ := Lib.hid (show (S.extract a S.size).size ≤ 140737488355328 by omega)
  clear h hg hsz
  have a1 : a ≤ S.size := by omega
  cases hp : parsed ((bl S).drop a) with
  | inr q =>
    obtain ⟨c, n⟩ := q
    have hpb := parsed_bd hp
    have hpl : n ≤ S.size - a := by simpa [hlen] using hpb.2
    have HP := Lib.hid (show parsed (bl (S.extract a S.size)) = .inr (c, n) by rw [kbl_extract S a a1]; exact hp)
    clear hp hpb
    have mk : ∀ w', Below w.heap.size w w' → (Below w.heap.size w w' ∧ w'.cell? ⟨C, 0, none⟩ = some (.string S) ∧ w'.cell? ⟨C, 1, none⟩ = some (.int .i64 (a : Int))) := fun w' h => ⟨h, (h.cell hlt).trans c0, (h.cell hlt).trans c1⟩
    go_enter Tryd.func89, Tryd.ntmps89
    repeat (first | go_values | go_skip | go_guarded | go_step | go_upon)
    go_region_held3 (fun w' => Below w.heap.size w w' ∧ w'.cell? ⟨C, 0, none⟩ = some (.string S) ∧ w'.cell? ⟨C, 1, none⟩ = some (.int .i64 (a : Int))) ((go_split_ands; refine mk _ ?_; exact (by repeat (first | exact Below.refl _ _ | assumption | refine bal ?_ _ | refine bdr ?_ | refine bdrn ?_ _ | (refine bset ?_ (by first | exact Nat.le_refl _ | (simp; done) | (simp; omega) | omega) _) | refine bstep ?_ (by assumption))))) ((go_at_call 32; refine (parse_ok _ _ HZ.out HP.out).mono ?_; rintro e w3 ⟨rfl, hb3⟩; obtain ⟨hc3, hf3⟩ := bcell hb3; have hz3 := hb3.size; simp at hz3; try have q3 : w.heap.size < w3.heap.size := by omega))
    all_goals
      rename_i hHeld
      have hW := hHeld.1
      clear hHeld
      have qC : C < w3.heap.size := by omega
      repeat (first | go_values | go_skip | go_guarded | go_step | go_upon)
      refine (as_nil _ _).mono ?_
      rintro e w5 ⟨rfl, hb5⟩
      obtain ⟨hc5, hf5⟩ := bcell hb5
      have hz5 := hb5.size
      try simp at hz5
      have q5_0 : w.heap.size < w5.heap.size := by omega
      have q5_1 : w3.heap.size < w5.heap.size := by omega
      have q5_2 : C < w5.heap.size := by omega
      dsimp only
      have hW5 := bstep (bal hW (.cells #[.pointer none] 90)) hb5
      have u5 := HC.out.below hW5
      obtain ⟨e0, e1⟩ := u5.cells
      repeat (first | go_values | go_skip | go_guarded | go_step | go_upon)
      go_still_tail 9, (by kernel_rfl)
      repeat (first | go_values | go_skip | go_guarded | go_step | go_upon)
      refine (add_ac C S a l c _ (a + n) _ (u5.below (drew_below _)) (by omega) hll).mono ?_
      rintro e w6 ⟨rfl, u6, hb6⟩
      dsimp only
      repeat (first | go_values | go_skip | go_guarded | go_step | go_upon)
      go_ret
      exact CutP.ok rfl rfl u6 (((hW5.drew).mono (Nat.le_of_lt hlt)).trans hb6)
  | inl er =>
    obtain ⟨ec, en⟩ := er
    have HP := Lib.hid (show parsed (bl (S.extract a S.size)) = .inl (ec, en) by rw [kbl_extract S a a1]; exact hp)
    have hen : en ≤ S.size := by have := parsed_le hp; rw [List.length_drop, hlen] at this; omega
    clear hp
    have mk : ∀ w', Below w.heap.size w w' → (Below w.heap.size w w' ∧ w'.cell? ⟨C, 0, none⟩ = some (.string S) ∧ w'.cell? ⟨C, 1, none⟩ = some (.int .i64 (a : Int))) := fun w' h => ⟨h, (h.cell hlt).trans c0, (h.cell hlt).trans c1⟩
    go_enter Tryd.func89, Tryd.ntmps89
    repeat (first | go_values | go_skip | go_guarded | go_step | go_upon)
    go_region_held3 (fun w' => Below w.heap.size w w' ∧ w'.cell? ⟨C, 0, none⟩ = some (.string S) ∧ w'.cell? ⟨C, 1, none⟩ = some (.int .i64 (a : Int))) ((go_split_ands; refine mk _ ?_; exact (by repeat (first | exact Below.refl _ _ | assumption | refine bal ?_ _ | refine bdr ?_ | refine bdrn ?_ _ | (refine bset ?_ (by first | exact Nat.le_refl _ | (simp; done) | (simp; omega) | omega) _) | refine bstep ?_ (by assumption))))) ((go_at_call 32; refine (parse_no _ _ HZ.out HP.out).mono ?_; rintro e w3 ⟨⟨p, rfl, hp, hl⟩, hb3⟩; dsimp only [cls0]; obtain ⟨hc3, hf3⟩ := bcell hb3; have hz3 := hb3.size; simp at hz3; try have q3 : w.heap.size < w3.heap.size := by omega))
    all_goals
      rename_i hHeld
      have hW := hHeld.1
      clear hHeld
      have qC : C < w3.heap.size := by omega
      have hp3 := (Array.getElem?_eq_some_iff.1 hp).1
      repeat (first | go_values | go_skip | go_guarded | go_step | go_upon)
      refine (as_new p _ _ (HL.out.below hW HL.out.pos) (by simp)).mono ?_
      rintro e w5 ⟨rfl, hb5, hcf⟩
      have hz5 := hb5.size
      simp at hz5
      have hW5 := bstep hW hb5
      have u5 := HC.out.below hW5
      obtain ⟨e0, e1⟩ := u5.cells
      have hp5 : FaultAt p (ec, en) w5 := by
        refine fault_below ?_ hb5
        have hl' := hl
        simp at hl'
        repeat (first | (with_reducible exact hp) | (with_reducible refine fault_alloc ?_ _) | (with_reducible refine fault_set ?_ (by simp; omega) _))
      obtain ⟨g0, g1⟩ : w5.cell? ⟨p, 0, none⟩ = some (.int .i64 (ec : Int)) ∧ w5.cell? ⟨p, 1, none⟩ = some (.int .i64 (en : Int)) := ⟨(cells_at hp5).1 0, (cells_at hp5).1 1⟩
      dsimp only
      repeat (first | go_values | go_skip | go_guarded | go_step | go_upon)
      go_still_tail 13, (by kernel_rfl)
      repeat (first | go_values | go_skip | go_guarded | go_step | go_upon)
      refine (fault_any _ _ (ec, a + en) _ rfl (by simp)).mono ?_
      rintro e w9 ⟨⟨p9, rfl, hp9, hl9⟩, hb9⟩
      dsimp only [id]
      repeat (first | go_values | go_skip | go_guarded | go_step | go_upon)
      go_ret
      refine CutP.no rfl rfl hp9 ?_ ((hW5.mono (Nat.le_of_lt hlt)).trans ((drew_below _).trans hb9 |>.mono ?_))
      · have := hW5.size; simp at hl9; omega
      · have := hW5.size; omega
end Go.Proofs.YtlohpplpnddfaaaDoor
