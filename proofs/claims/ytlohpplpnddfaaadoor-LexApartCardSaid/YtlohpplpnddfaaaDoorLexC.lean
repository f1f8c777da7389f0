/- The cutter: what it holds; lex.fault, its methods wrong and add. -/
import Derived.Test.YtlohpplpnddfaaaDoorLexP
import Derived.Test.YtlohpplpnddfaaaDoorRdM
import Derived.Test.YtlohpplpnddfaaaDoorOwn
import Derived.Deep.Onto
import Derived.Outline
import Derived.Deep.AppendLies
import Derived.Deep.RegionLaw
namespace Go.Proofs.YtlohpplpnddfaaaDoor
open Go.RowKit Go.Sort

/-- A token's cells, a token. -/
def tokC (t : Tok) : List Value := [.int .i64 (t.kind : Int), .string (mkS t.text), .int .u64 (wd t.cls 0), .int .u64 (wd t.cls 1), .int .u64 (wd t.cls 2), .int .u64 (wd t.cls 3), .int .i64 (t.pos : Int)]
def tokCells : List Tok → List Value
  | [] => []
  | t :: l => tokC t ++ tokCells l
theorem tokCells_append (a b : List Tok) : tokCells (a ++ b) = tokCells a ++ tokCells b := by
  induction a with
  | nil => rfl
  | cons t a ih => simp [tokCells, ih]
/-- A cutter at C over S, at a place, with these tokens. -/
def CU (C : Nat) (S : ByteArray) (a : Nat) (l : List Tok) (w : World) : Prop :=
  ∃ v, w.heap[C]? = some (.cells #[.string S, .int .i64 (a : Int), v] 109 (0, 0)) ∧ w.ownsRow (C + 1) 53 7 v l.length (tokCells l)
theorem CU.lt {C : Nat} {S : ByteArray} {a : Nat} {l : List Tok} {w : World} (h : CU C S a l w) : C < w.heap.size := by
  obtain ⟨v, h, _⟩ := h; exact (Array.getElem?_eq_some_iff.1 h).1
theorem CU.below {C : Nat} {S : ByteArray} {a : Nat} {l : List Tok} {w w' : World} (h : CU C S a l w) (hb : Below w.heap.size w w') : CU C S a l w' := by
  obtain ⟨v, h1, h2⟩ := h
  exact ⟨v, (hb.block _ (Array.getElem?_eq_some_iff.1 h1).1).trans h1, owns_below h2 hb⟩
theorem CU.cells {C : Nat} {S : ByteArray} {a : Nat} {l : List Tok} {w : World} (h : CU C S a l w) : w.cell? ⟨C, 0, none⟩ = some (.string S) ∧ w.cell? ⟨C, 1, none⟩ = some (.int .i64 (a : Int)) := by
  obtain ⟨v, h1, _⟩ := h
  exact ⟨(cells_at h1).1 0, (cells_at h1).1 1⟩
theorem info_tok : (Tryd.prog.info? 53).map (fun i => (i.zero, i.size, i.bytes)) = some (some (.agg #[.int .i64 0, .string ⟨#[]⟩, .int .u64 0, .int .u64 0, .int .u64 0, .int .u64 0, .int .i64 0]), 7, 64) := by kernel_rfl
theorem cell_7_new (w : World) (a b c d e f g : Value) (t : TypeId) : ∀ j u, [a, b, c, d, e, f, g][j]? = some u → (w.alloc (.cells #[a, b, c, d, e, f, g] t)).cell? ((⟨w.heap.size, 0, none⟩ : Addr).add j) = some u := by
  intro j u hj
  match j, hj with
  | 0, hj => simp at hj; subst hj; simp [Addr.add]
  | 1, hj => simp at hj; subst hj; simp [Addr.add]
  | 2, hj => simp at hj; subst hj; simp [Addr.add]
  | 3, hj => simp at hj; subst hj; simp [Addr.add]
  | 4, hj => simp at hj; subst hj; simp [Addr.add]
  | 5, hj => simp at hj; subst hj; simp [Addr.add]
  | 6, hj => simp at hj; subst hj; simp [Addr.add]
  | (j + 7), hj => simp at hj
theorem new_two (w : World) (o p : Obj) : ((w.alloc o).alloc p).heap[w.heap.size + 1]? = some p := by
  have := heap_alloc_new (w.alloc o) p
  simpa using this
theorem add_keep {w w1 : World} {o p x : Obj} {C : Nat} {b : Option Nat} (h : w.heap[C]? = some x) (hC : C < w.heap.size) (hb : b ≠ some C) (hg : ((w.alloc o).alloc p).drew.grownBy w1 b) : w1.heap[C]? = some x := by
  rw [hg.block C (by simp; omega) (fun e => hb e.symm)]
  show ((w.alloc o).alloc p).heap[C]? = some x
  rw [RowKit.Below.heap_alloc _ _ _ (by simp; omega), RowKit.Below.heap_alloc _ _ _ hC, h]
theorem gsetk (w : World) (a : Addr) (v : Value) : w.grownBy (w.setCell a v) (some a.block) := ⟨rfl, rfl, rfl, by simp, fun k _ hk => heap_setCell_other w a k v (fun e => hk (by rw [e]))⟩
set_option maxHeartbeats 400000 in
theorem fault_any (c x : Int) (er : Nat × Nat) (w : World) (hc : c = er.1) (hx : x = er.2) :
    Calls Tryd.prog 62 #[.int .i64 c, .int .i64 x] w fun e w' => AnsFault er w id e w' ∧ Below w.heap.size w w' := by
  subst hc hx
  go_enter Tryd.func62, Tryd.ntmps62
  repeat (first | go_values | go_skip | go_guarded | go_step | go_upon)
  go_ret
  exact ⟨⟨_, rfl, heap_alloc_new _ _, Nat.le_refl _⟩, (by repeat (first | exact Below.refl _ _ | assumption | refine bal ?_ _ | refine bdr ?_ | refine bdrn ?_ _ | (refine bset ?_ (by first | exact Nat.le_refl _ | (simp; done) | (simp; omega) | omega) _) | refine bstep ?_ (by assumption)))⟩
set_option maxRecDepth 100000 in
set_option maxHeartbeats 800000 in
theorem lwrong_any (C : Nat) (S : ByteArray) (a : Nat) (l : List Tok) (x : Int) (b : Nat) (w : World) (h : CU C S a l w) (hx : x = b) (_ : S.size ≤ 140737488355328) :
    Calls Tryd.prog 108 #[.pointer (some ⟨C, 0, none⟩), .int .i64 x] w fun e w' => AnsFault (wrongAt (bl S) b) w id e w' ∧ Below w.heap.size w w' := by
  subst hx
  obtain ⟨c0, c1⟩ := h.cells
  clear h
  by_cases ha : S.size ≤ b
  · have hw := Lib.hid (wrongAt_bout ha)
    have d1 : decide (S.size ≤ b) = true := by simpa using ha
    go_enter Tryd.func108, Tryd.ntmps108
    repeat (first | go_values | go_skip | go_guarded | go_step | go_upon)
    refine (fault_any _ _ (3, S.size) _ rfl rfl).mono ?_
    rintro e w1 ⟨⟨p, rfl, hp, hl⟩, hb1⟩
    dsimp only [id]
    repeat (first | go_values | go_skip | go_guarded | go_step | go_upon)
    go_ret
    rw [hw.out]
    exact ⟨⟨p, rfl, hp, hl⟩, hb1⟩
  · have hw := Lib.hid (wrongAt_bin (Nat.lt_of_not_le ha))
    have d1 : decide (S.size ≤ b) = false := by simpa using ha
    go_enter Tryd.func108, Tryd.ntmps108
    repeat (first | go_values | go_skip | go_guarded | go_step | go_upon)
    refine (fault_any _ _ (4, b) _ rfl rfl).mono ?_
    rintro e w1 ⟨⟨p, rfl, hp, hl⟩, hb1⟩
    dsimp only [id]
    repeat (first | go_values | go_skip | go_guarded | go_step | go_upon)
    go_ret
    rw [hw.out]
    exact ⟨⟨p, rfl, hp, hl⟩, hb1⟩
set_option maxRecDepth 100000 in
set_option maxHeartbeats 1600000 in
theorem add_any (C : Nat) (S : ByteArray) (a : Nat) (l : List Tok) (t : Tok) (p0 x : Int) (n : Nat) (w : World) (h : CU C S a l w) (hx : x = n) (ht : t.pos = a) (hl : l.length ≤ 100000) :
    Calls Tryd.prog 65 #[.pointer (some ⟨C, 0, none⟩), .agg #[.int .i64 (t.kind : Int), .string (mkS t.text), .int .u64 (wd t.cls 0), .int .u64 (wd t.cls 1), .int .u64 (wd t.cls 2), .int .u64 (wd t.cls 3), .int .i64 p0], .int .i64 x] w fun e w' => e = .returned (.tuple #[]) ∧ CU C S n (l ++ [t]) w' ∧ Below C w w' := by
  subst hx
  obtain ⟨i0, iH, iz, is, ib⟩ := info_parts info_tok
  have hC := h.lt
  obtain ⟨v, h1, hown⟩ := h
  obtain ⟨cC, fC, zC⟩ := cells_at h1
  go_enter Tryd.func65, Tryd.ntmps65
  repeat (first | go_values | go_skip | go_guarded | go_step | go_upon)
  have HO := Lib.hid hown
  have hCne : v.ownBlock ≠ some C := fun e => by have := (hown.lt C e).1; omega
  have hbox := heap_alloc_new w (.cells #[.int .i64 (t.kind : Int), .string (mkS t.text), .int .u64 (wd t.cls 0), .int .u64 (wd t.cls 1), .int .u64 (wd t.cls 2), .int .u64 (wd t.cls 3), .int .i64 (a : Int)] 53)
  have HN := Lib.hid (fun (o : Obj) => new_two w o (.cells #[.int .i64 (t.kind : Int), .string (mkS t.text), .int .u64 (wd t.cls 0), .int .u64 (wd t.cls 1), .int .u64 (wd t.cls 2), .int .u64 (wd t.cls 3), .int .i64 (a : Int)] 53))
  clear hown
  go_region_law (refine step_append_lies _ (by rfl) _ _ _ (by rfl) (C + 1) 53 i0 _ 7 64 Tryd.underlying49 iH iz is ib rfl (by omega) v l.length (tokCells l) (by rfl) (((HO.out.alloc _).alloc _).drew) ⟨w.heap.size + 1, 0, none⟩ 1 1 [.int .i64 (t.kind : Int), .string (mkS t.text), .int .u64 (wd t.cls 0), .int .u64 (wd t.cls 1), .int .u64 (wd t.cls 2), .int .u64 (wd t.cls 3), .int .i64 (a : Int)] (by rfl) (by rfl) (World.news_of_block (cs := #[.int .i64 (t.kind : Int), .string (mkS t.text), .int .u64 (wd t.cls 0), .int .u64 (wd t.cls 1), .int .u64 (wd t.cls 2), .int .u64 (wd t.cls 3), .int .i64 (a : Int)]) (t := 53) (fr := (0, 0)) (HN.out _)) (by simp [Value.oneCell']) (by omega) (by unfold maxLen; omega) (by omega) (by simp; omega) (w.heap.size + 1 + 1) (by simp) ?_; intro gg cap w1 hown1 hgrow hat hlt; obtain ⟨cD, fD, zD⟩ := cells_at (add_keep h1 hC hCne hgrow))
  all_goals
    repeat (first | go_values | go_skip | go_guarded | go_step | go_upon)
    go_end0
    have hgC : C + 1 ≤ gg := (hown1.lt gg rfl).1
    have g1 := gsetk w1 ⟨C, 2, none⟩ (.slice (some ⟨gg, 0, none⟩) (l.length + 1) cap)
    have g2 := g1.trans (gsetk (w1.setCell ⟨C, 2, none⟩ (.slice (some ⟨gg, 0, none⟩) (l.length + 1) cap)) ⟨C, 1, none⟩ (.int .i64 (n : Int)))
    refine ⟨rfl, ⟨_, heap_setCell_same _ C 1 _ _ _ (heap_setCell_same _ C 2 _ _ _ (add_keep h1 hC hCne hgrow)), ?_⟩, ?_⟩
    · have := hown1.kept g2 (by simp [Value.ownBlock]; omega)
      rw [tokCells_append, List.length_append]
      simpa [tokCells, tokC, ht] using this
    · exact (((((Below.refl C w).alloc (by omega) _).alloc (by simp; omega) _).drew.grown hgrow (by simp; omega) (fun k hk => by have := (HO.out.lt k hk).1; omega)).setCell (p := ⟨C, 2, none⟩) (Nat.le_refl _) _).setCell (p := ⟨C, 1, none⟩) (Nat.le_refl _) _
end Go.Proofs.YtlohpplpnddfaaaDoor
