/- The walk of Parse, where the source has tokens. -/
import Derived.Test.YtjlcoldnhbkcgaaGreatDoorG34
import Derived.Deep.DrawnRows
namespace Go.Proofs.YtjlcoldnhbkcgaaGreatDoor
open Go.RowKit Go.Sort

attribute [local go_sem ↓] Go.wp_at_zero Go.wp_at_succ

/-- The reader that Parse makes. -/
theorem sr_new {g cap : Nat} {l : List Tok} {w : World} {B : Nat} (hown : w.ownsRow B 96 7 (.slice (some ⟨g, 0, none⟩) l.length cap) l.length (tokCells l)) :
    SR w.heap.size g 0 cap 0 l (w.alloc (.cells #[.slice (some ⟨g, 0, none⟩) l.length cap, .int .i64 0] 94)) := by
  have h2 := hown.2
  rcases h2 with ⟨h, _⟩ | ⟨g', cap', cur, h1, h2, h3, h4, h5, h6, h7⟩
  · cases h
  · cases h1
    have hlt : g < w.heap.size := (Array.getElem?_eq_some_iff.1 h3).1
    refine ⟨heap_alloc_new _ _, fun j u hj => ?_, by simp; omega, by omega, h4⟩
    rw [Nat.zero_add, cell_alloc_lt _ _ _ _ hlt]
    have hl := hown.1
    have hjl : j < l.length * 7 := by
      have := (List.getElem?_eq_some_iff.1 hj).1
      omega
    rw [hown.cellAt j hjl]
    exact hj
/-- The state of Parse's loop. -/
structure PI (R g : Nat) (w : World) (l : List Tok) (gs : List Ru) (rs : List Tok) (wr : World) : Prop where
  rd : ∃ o c, SR R g o c 0 rs wr
  gv : ∃ v cs, wr.heap[w.heap.size]? = some (.cells #[v] 24 (0, 0)) ∧ GV (R + 1) gs v cs wr ∧ (gs = [] → v = .slice none 0 0)
  er : wr.heap[w.heap.size + 1]? = some (.cells #[.nilIface] 28 (0, 0))
  grow : Below w.heap.size w wr
  ends : EndsT rs
  len : gs.length + rs.length ≤ l.length
theorem PI.meas {R g : Nat} {w : World} {l rs : List Tok} {gs : List Ru} {wr : World} (h : PI R g w l gs rs wr) : slLen ((wr.cell? ⟨R, 0, none⟩).getD undef) = rs.length := by
  obtain ⟨o, c, hs⟩ := h.rd
  rw [hs.cells.1]; rfl
theorem GV.set {B b i : Nat} {gs : List Ru} {v u : Value} {cs : List Value} {w : World} (h : GV B gs v cs w) (hb : b < B) : GV B gs v cs (w.setCell ⟨b, i, none⟩ u) := h.gby (gsetk w ⟨b, i, none⟩ u) hb
/-- One rule more. -/
theorem PI.next {R g o c gg cap lo m : Nat} {w w4 w5 : World} {l rs3 : List Tok} {gs : List Ru} {x : Ru} {v : Value} {cs cc : List Value} {X : Obj} (hm : m = gs.length) (hs4 : SR R g o c 0 rs3 w4) (hgv4 : GV (R + 1) gs v cs w4) (h2 : w4.heap[w.heap.size]? = some (.cells #[v] 24 (0, 0))) (h3 : w4.heap[w.heap.size + 1]? = some (.cells #[.nilIface] 28 (0, 0))) (hB : Below w.heap.size w w4) (hR : w.heap.size + 1 < R) (hg : w.heap.size + 1 < g)
    (hrep : Rep w4 (Blk lo w4.heap.size) x.body cc) (hlo : ∀ k, v.ownBlock = some k → k < lo) (hRl : R < lo) (hgR : g < R) (hgrow : (w4.alloc X).grownBy w5 v.ownBlock) (hat : v.ownBlock = some gg ∨ gg = w4.heap.size + 1)
    (hown : w5.ownsRow (R + 1) 42 10 (.slice (some ⟨gg, 0, none⟩) (m + 1) cap) (m + 1) (cs ++ (.string (mkS x.name) :: (cc ++ [.int .i64 (x.pos : Int)])))) (hE : EndsT rs3) (hlen : gs.length + rs3.length + 1 ≤ l.length) :
    PI R g w l (gs ++ [x]) rs3 (w5.setCell ⟨w.heap.size, 0, none⟩ (.slice (some ⟨gg, 0, none⟩) (m + 1) cap)) := by
  subst hm
  have hRw := hs4.ltR
  have z := hgrow.size
  simp only [World.size_alloc] at z
  have hv : ∀ k, v.ownBlock = some k → R + 1 ≤ k := fun k hk => (hgv4.own.lt k hk).1
  have hgv5 := hgv4.push hgrow hat hlo (by omega) hrep hown
  have h25 : w5.heap[w.heap.size]? = some (.cells #[v] 24 (0, 0)) := (hgrow.block _ (by simp; omega) (fun e => by have := hv _ e.symm; omega)).trans ((RowKit.Below.heap_alloc _ _ _ (by omega)).trans h2)
  have h35 : w5.heap[w.heap.size + 1]? = some (.cells #[.nilIface] 28 (0, 0)) := (hgrow.block _ (by simp; omega) (fun e => by have := hv _ e.symm; omega)).trans ((RowKit.Below.heap_alloc _ _ _ (by omega)).trans h3)
  have s5 : SR R g o c 0 rs3 w5 := (hs4.alloc X).row hgrow (fun e => by have := hv _ e; omega) (fun e => by have := hv _ e; omega)
  have b5 : Below w.heap.size w w5 := ⟨hgrow.os.trans hB.os, hgrow.tape.trans hB.tape, hgrow.output.trans hB.output, by have := hB.size; omega, fun k hk => (hgrow.block k (by simp; omega) (fun e => by have := hv _ e.symm; omega)).trans ((RowKit.Below.heap_alloc _ _ _ (by omega)).trans (hB.block k hk))⟩
  refine ⟨⟨o, c, s5.set (by omega) (by omega) _ _⟩, ⟨_, _, ?_, hgv5.set (by omega), fun e => by simp at e⟩, (heap_setCell_other _ _ _ _ (by simp)).trans h35, bset b5 (by simp) _, hE, by simp; omega⟩
  refine (heap_setCell_same _ w.heap.size 0 _ _ _ h25).trans ?_
  simp
theorem info_rule : (Tryz.prog.info? 42).map (fun i => (i.zero, i.size, i.bytes)) = some (some (.agg #[.string ⟨#[]⟩, .int .i64 0, .string ⟨#[]⟩, .int .u64 0, .int .u64 0, .int .u64 0, .int .u64 0, .slice none 0 0, .int .i64 0, .int .i64 0]), 10, 112) := by kernel_rfl
/-- The door, where a fault is thrown. -/
theorem door_fault {s : List UInt8} {w w' : World} {tm : Array Value} {p : Nat} {c : Nat} {x : Int} {v : Value} (h2 : w'.heap[w.heap.size]? = some (.cells #[v] 24 (0, 0))) (h3 : w'.heap[w.heap.size + 1]? = some (.cells #[.nilIface] 28 (0, 0))) (hB : Below w.heap.size w w') (hF : FaultI p c x w') (hp : w.heap.size + 1 < p) (hR : Reads s (.inl (c, x)))
    (t2 : tm[2]? = some (.pointer (some ⟨w.heap.size, 0, none⟩))) (t3 : tm[3]? = some (.pointer (some ⟨w.heap.size + 1, 0, none⟩))) :
    bodyPostD Tryz.prog Tryz.f22 (ParseP s w) (.panic [{ v := .iface 79 (.pointer (some ⟨p, 0, none⟩)), recovered := false }]) { tmps := tm, defers := [{ target := .fn (.func 42) #[.pointer (some ⟨w.heap.size, 0, none⟩), .pointer (some ⟨w.heap.size + 1, 0, none⟩)], args := #[] }] } w' := by
  obtain ⟨c2, f2, q2⟩ := cells_at h2
  obtain ⟨c3, f3, q3⟩ := cells_at h3
  have d2 : w'.cell? ⟨w.heap.size, 0, none⟩ = some v := c2 0
  have d3 : w'.cell? ⟨w.heap.size + 1, 0, none⟩ = some .nilIface := c3 0
  refine leaves_cons (f := 42) (args := #[.pointer (some ⟨w.heap.size, 0, none⟩), .pointer (some ⟨w.heap.size + 1, 0, none⟩)]) (by simp) (by simp [go_sem]) ?_
  refine (catch_fault w.heap.size (w.heap.size + 1) p v [] _ h2 h3 (by omega)).mono ?_
  rintro e u' w'' ⟨rfl, rfl, rfl⟩
  show Leaves Tryz.prog Tryz.f22 tm (ParseP s w) [] .returning _
  refine ⟨.tuple #[.agg #[.slice none 0 0], .iface 79 (.pointer (some ⟨p, 0, none⟩))], by simp [results, Tryz.results22, go_sem, t2, t3, d2, d3, cell_set_ne], ?_⟩
  have hF' : ∀ (w1 : World), w1.heap[p]? = w'.heap[p]? → FaultI p c x w1 := fun w' h => h.trans hF
  refine ⟨?_, .inl (c, x), hR, p, rfl, hF' _ ?_, by omega⟩
  · exact bset (bset hB (by simp) _) (by simp) _
  · rw [heap_setCell_other _ _ _ _ (by simp; omega), heap_setCell_other _ _ _ _ (by simp; omega)]
/-- The door, where rules were read. -/
theorem door_rules {s : List UInt8} {w w' : World} {tm : Array Value} {g : List Ru} {v : Value} (h2 : w'.heap[w.heap.size]? = some (.cells #[v] 24 (0, 0))) (h3 : w'.heap[w.heap.size + 1]? = some (.cells #[.nilIface] 28 (0, 0))) (hB : Below w.heap.size w w') (hG : GRep w' (Fresh w w') g v) (hR : Reads s (.inr g))
    (t2 : tm[2]? = some (.pointer (some ⟨w.heap.size, 0, none⟩))) (t3 : tm[3]? = some (.pointer (some ⟨w.heap.size + 1, 0, none⟩))) :
    bodyPostD Tryz.prog Tryz.f22 (ParseP s w) .ret { tmps := tm, defers := [{ target := .fn (.func 42) #[.pointer (some ⟨w.heap.size, 0, none⟩), .pointer (some ⟨w.heap.size + 1, 0, none⟩)], args := #[] }] } w' := by
  obtain ⟨c2, f2, q2⟩ := cells_at h2
  obtain ⟨c3, f3, q3⟩ := cells_at h3
  have d2 : w'.cell? ⟨w.heap.size, 0, none⟩ = some v := c2 0
  have d3 : w'.cell? ⟨w.heap.size + 1, 0, none⟩ = some .nilIface := c3 0
  refine leaves_cons (f := 42) (args := #[.pointer (some ⟨w.heap.size, 0, none⟩), .pointer (some ⟨w.heap.size + 1, 0, none⟩)]) (by simp) (by simp [go_sem]) ?_
  refine (catch_none w.heap.size (w.heap.size + 1) _).mono ?_
  rintro e u' w'' ⟨rfl, rfl, rfl⟩
  show Leaves Tryz.prog Tryz.f22 tm (ParseP s w) [] .returning _
  exact ⟨.tuple #[.agg #[v], .nilIface], by simp [results, Tryz.results22, go_sem, t2, t3, d2, d3], hB, .inr g, hR, v, rfl, hG⟩
/-- What a panic leaves. -/
def PanR (s : List UInt8) (w : World) (c : List PanicEntry) (w' : World) : Prop := ∃ (p ec : Nat) (ex : Int) (v : Value), c = [{ v := .iface 79 (.pointer (some ⟨p, 0, none⟩)), recovered := false }] ∧ w'.heap[w.heap.size]? = some (.cells #[v] 24 (0, 0)) ∧ w'.heap[w.heap.size + 1]? = some (.cells #[.nilIface] 28 (0, 0)) ∧ Below w.heap.size w w' ∧ FaultI p ec ex w' ∧ w.heap.size + 1 < p ∧ Reads s (.inl (ec, ex))
theorem door_pan {s : List UInt8} {w w' : World} {c : List PanicEntry} {a : Act} (h : PanR s w c w') (t2 : a.tmps[2]? = some (.pointer (some ⟨w.heap.size, 0, none⟩))) (t3 : a.tmps[3]? = some (.pointer (some ⟨w.heap.size + 1, 0, none⟩))) (hd : a.defers = [{ target := .fn (.func 42) #[.pointer (some ⟨w.heap.size, 0, none⟩), .pointer (some ⟨w.heap.size + 1, 0, none⟩)], args := #[] }]) :
    bodyPostD Tryz.prog Tryz.f22 (ParseP s w) (.panic c) a w' := by
  obtain ⟨p, ec, ex, v, rfl, h2, h3, hB, hF, hp, hR⟩ := h
  obtain ⟨tm, df⟩ := a
  simp only at hd t2 t3
  subst hd
  exact door_fault h2 h3 hB hF hp hR t2 t3
theorem pan_fin {S : List UInt8} {w w3 w4 : World} {l rs' : List Tok} {gs : List Ru} {t a : Tok} {R p f ec ex : Nat} {v : Value} (hL : lexed S = .inr l) (ha : a.kind = 2) (h1 : t.kind = 1) (h64 : gs.length ≠ 64) (hon : RulesOn l (t :: a :: rs') gs) (hf : pChoice f 0 rs' = some (.err ec ex)) (h2 : w3.heap[w.heap.size]? = some (.cells #[v] 24 (0, 0))) (h3 : w3.heap[w.heap.size + 1]? = some (.cells #[.nilIface] 28 (0, 0))) (hB : Below w.heap.size w w3) (hg : w3.drew.grownBy w4 (some R)) (hp : FaultI p ec ex w4) (hl : w3.heap.size ≤ p) (hR : w.heap.size + 1 < R) (hz : w.heap.size + 1 < w3.heap.size) :
    PanR S w [{ v := .iface 79 (.pointer (some ⟨p, 0, none⟩)), recovered := false }] w4 := by
  obtain ⟨f', hf'⟩ := hon.err h1 h64 ha hf
  refine ⟨p, ec, ex, v, rfl, (hg.block _ (by simp; omega) (fun e => by have := Option.some.inj e; omega)).trans h2, (hg.block _ (by simp; omega) (fun e => by have := Option.some.inj e; omega)).trans h3, ⟨hg.os.trans hB.os, hg.tape.trans hB.tape, hg.output.trans hB.output, Nat.le_trans hB.size hg.size, fun k hk => (hg.block k (by have := hB.size; simp; omega) (fun e => by have := Option.some.inj e; omega)).trans (hB.block k hk)⟩, hp, by omega, ?_⟩
  unfold Reads
  rw [hL]
  exact ⟨f', .inl ⟨ec, ex, hf', rfl⟩⟩
theorem ieq (a k : Nat) : ((a : Int) == (k : Int)) = decide (a = k) := by
  by_cases h : a = k
  · subst h; simp
  · rw [decide_eq_false h, beq_eq_false_iff_ne]; omega
theorem ine (a k : Nat) : ((a : Int) != (k : Int)) = !decide (a = k) := by rw [bne, ieq]
set_option maxRecDepth 100000 in
set_option maxHeartbeats 6400000 in
theorem syn_ok (S : ByteArray) (w : World) (hg : Laid w) {l : List Tok} (hL : lexed (bl S) = .inr l) :
    Calls Tryz.prog 22 #[.string S] w (ParseP (bl S) w) := by
  obtain ⟨hE, hll⟩ := toks_ends (lexed_inr hL).2
  have hl9 : l.length ≤ 9000 := by have := (lexed_inr hL).1; omega
  have HE := Lib.hid hE
  have hmf : ∀ (fn : Fn) (first cap : Array Value) (w : World), (Instr.makeFunc fn first cap).run Tryz.prog w = .ok (.func fn first cap) w := fun _ _ _ _ => rfl
  have hm1 := cell_alloc_lt
  have hm2 := frozen_alloc_lt
  clear hE hll
  go_enter_defers Tryz.func22, Tryz.ntmps22
  repeat (first | go_values | go_skip | go_guarded | go_step | go_upon)
  refine (lexed_ok S _ (hg.below (bal (bal (Below.refl _ _) _) _) hg.pos) hL).mono ?_
  rintro e w1 ⟨v, rfl, hown, hb1⟩
  obtain ⟨u0, l0, hul⟩ := HE.out.ne
  have h2 := (hb1.block w.heap.size (by simp; omega)).trans ((RowKit.Below.heap_alloc _ _ _ (by simp)).trans (heap_alloc_new w (.cells #[.slice none 0 0] 24)))
  have h3 := (hb1.block (w.heap.size + 1) (by simp)).trans (alloc2_new w (.cells #[.slice none 0 0] 24) (.cells #[.nilIface] 28))
  obtain ⟨c2, f2, q2⟩ := cells_at h2
  obtain ⟨c3, f3, q3⟩ := cells_at h3
  have d2 : w1.cell? ⟨w.heap.size, 0, none⟩ = some (.slice none 0 0) := c2 0
  have d3 : w1.cell? ⟨w.heap.size + 1, 0, none⟩ = some .nilIface := c3 0
  rcases owns_form2 hown with ⟨hn0, _⟩ | ⟨g, cap, rfl⟩
  · rw [hul] at hn0; cases hn0
  have hgB := (owns_block hown).1
  simp only [World.size_alloc] at hgB
  have hgl1 : g < w1.heap.size := by
    obtain ⟨_, _, cur, hcur, _⟩ := owns_block hown
    exact (Array.getElem?_eq_some_iff.1 hcur).1
  have HB := Lib.hid hb1
  have HO := Lib.hid hown
  have HON := Lib.hid (show RulesOn l l [] from fun f r h => ⟨f, h⟩)
  have HL := Lib.hid hL
  have HUL := Lib.hid hul
  have H2 := Lib.hid h2
  have H3 := Lib.hid h3
  clear h2 h3 c2 c3 hown hb1 hL hul
  dsimp only
  repeat (first | go_values | go_skip | go_guarded | go_step | go_upon)
  go_loopw [20] (fun _ wr => ∃ (gs : List Ru) (rs : List Tok), PI w1.heap.size g w l gs rs wr ∧ Hid (RulesOn l rs gs)) (fun _ wr => slLen ((wr.cell? ⟨w1.heap.size, 0, none⟩).getD undef))
  case atStart =>
    refine ⟨[], l, ?_, HON⟩
    have hk : (w1.setCell ⟨w.heap.size + 1, 0, none⟩ .nilIface).ownsRow (w.heap.size + 1 + 1) 96 7 (.slice (some ⟨g, 0, none⟩) l.length cap) l.length (tokCells l) := by
      refine World.ownsRow.kept (by simpa using HO.out) (gsetk w1 ⟨w.heap.size + 1, 0, none⟩ _) (.inr ?_)
      intro e
      have := Option.some.inj e
      simp at this
      omega
    have hsr := sr_new hk
    simp only [World.size_setCell] at hsr
    have hb : Below w.heap.size w w1 := (bal (bal (Below.refl _ w) _) _).trans (HB.out.mono (by simp; omega))
    refine ⟨⟨0, cap, hsr⟩, ⟨.slice none 0 0, [], ?_, ⟨World.ownsRow_nil _ _ _ _, .nil⟩, fun _ => rfl⟩, ?_, bal (bset hb (by simp) _) _, HE.out, by simp⟩
    · exact (RowKit.Below.heap_alloc _ _ _ (by simp; omega)).trans ((heap_setCell_other _ _ _ _ (by simp)).trans H2.out)
    · refine (RowKit.Below.heap_alloc _ _ _ (by simp; omega)).trans ((heap_setCell_same _ (w.heap.size + 1) 0 _ _ _ H3.out).trans ?_)
      simp
  case round =>
    obtain ⟨gs, rs, hI, hon⟩ := hrel
    have HPI := Lib.hid hI
    obtain ⟨⟨o1, c1, h1⟩, ⟨v, cs, hv, hGV, hnil⟩, her, hgrow, hE1, hl1⟩ := hI
    obtain ⟨t1, l1, rfl⟩ := hE1.ne
    have H1 := Lib.hid h1
    obtain ⟨e0, e1, ez⟩ := h1.cells
    obtain ⟨a0, a1, a2, a3, a4, a5, a6⟩ := h1.head
    have HV := Lib.hid hv
    have HER := Lib.hid her
    have HGV := Lib.hid hGV
    have HE1 := Lib.hid hE1
    have HGW := Lib.hid hgrow
    obtain ⟨va, vcap, rfl⟩ : ∃ a cap, v = .slice a gs.length cap := by
      rcases owns_form2 hGV.own with ⟨hn0, hv⟩ | ⟨g3, cap3, hv⟩
      · exact ⟨none, 0, by rw [hn0]; exact hv⟩
      · exact ⟨_, _, hv⟩
    have r2 : wr.cell? ⟨w.heap.size, 0, none⟩ = some (.slice va gs.length vcap) := (cells_at hv).1 0
    have r2f := (cells_at hv).2.1
    have r2q := (cells_at hv).2.2
    have r3 : wr.cell? ⟨w.heap.size + 1, 0, none⟩ = some .nilIface := (cells_at her).1 0
    have r3f := (cells_at her).2.1
    have r3q := (cells_at her).2.2
    have qRr := h1.ltR
    obtain ⟨wa, rfl⟩ : ∃ wa : World, wa = wr := ⟨_, rfl⟩
    dsimp only [List.length] at e0
    clear h1 hv her hGV hE1 hgrow hnil
    by_cases hstop : gs.length ≠ 0 ∧ t1.kind = 6
    · have k0 : ((gs.length : Int) == 0) = false := (ieq gs.length 0).trans (decide_eq_false hstop.1)
      have k6 : ((t1.kind : Int) != 6) = false := (ine t1.kind 6).trans (by rw [decide_eq_true hstop.2]; rfl)
      obtain ⟨f', hf'⟩ := hon.out.stop hstop.1 hstop.2
      have hgl : 0 < gs.length := by omega
      have HF := Lib.hid hf'
      clear hstop hon hf'
      repeat (first | go_values | go_skip | go_guarded | go_step | go_upon)
      refine door_rules (g := gs) (v := .slice va gs.length vcap) ?_ ?_ ?_ ?_ (by unfold Reads; rw [HL.out]; exact ⟨f', .inr ⟨gs, _, HF.out, rfl⟩⟩) rfl rfl
      · refine (heap_setCell_other _ _ _ _ (by simp)).trans ((heap_setCell_same _ w.heap.size 0 _ _ _ HV.out).trans ?_)
        simp
      · refine (heap_setCell_same _ (w.heap.size + 1) 0 _ _ _ ((heap_setCell_other _ _ _ _ (by simp)).trans HER.out)).trans ?_
        simp
      · exact bset (bset HGW.out (by simp) _) (by simp) _
      · refine (HGV.out.rep hgl).mono (fun b hb => ?_) (fun b hb => ⟨by have := hb.lo; omega, by have := hb.hi; simpa using this⟩)
        have := hb.lo
        rw [heap_setCell_other _ _ _ _ (by simp; omega), heap_setCell_other _ _ _ _ (by simp; omega)]
    · repeat (go_not_at_region 6; first | go_values | go_skip | go_guarded | go_step | go_upon)
      go_cut [33] from 20 to 33 (fun s wx => s = .bool true ∧ wx = wa)
      case first =>
        by_cases g0 : gs.length = 0
        · have k0 : ((gs.length : Int) == 0) = true := (ieq gs.length 0).trans (decide_eq_true g0)
          clear hstop g0
          repeat (first | go_values | go_skip | go_guarded | go_step | go_upon)
          go_meet
          exact ⟨rfl, rfl⟩
        · have k0 : ((gs.length : Int) == 0) = false := (ieq gs.length 0).trans (decide_eq_false g0)
          have k6 : ((t1.kind : Int) != 6) = true := (ine t1.kind 6).trans (by rw [decide_eq_false (fun e => hstop ⟨g0, e⟩)]; rfl)
          clear hstop g0
          repeat (first | go_values | go_skip | go_guarded | go_step | go_upon)
          go_meet
          exact ⟨rfl, rfl⟩
      case rest =>
        obtain ⟨rfl, hw⟩ := hcut
        have hw' := hw.symm
        subst hw'
        clear hw
        have HST := Lib.hid hstop
        clear hstop
        repeat (go_not_at_region 7; first | go_values | go_skip | go_guarded | go_step | go_upon)
        go_cut [47] from 34 to 47 (fun s wx => s = .bool (decide (gs.length = 64 ∧ t1.kind = 1)) ∧ wx = wa)
        case first =>
          by_cases g64 : gs.length = 64
          · have k0 : ((gs.length : Int) == 64) = true := (ieq gs.length 64).trans (decide_eq_true g64)
            have k1 : ((t1.kind : Int) == 1) = decide (t1.kind = 1) := ieq t1.kind 1
            have hd : decide (gs.length = 64 ∧ t1.kind = 1) = decide (t1.kind = 1) := by simp [g64]
            have HD := Lib.hid hd
            clear g64 hd
            repeat (first | go_values | go_skip | go_guarded | go_step | go_upon)
            go_meet
            rw [HD.out]
            exact ⟨rfl, rfl⟩
          · have k0 : ((gs.length : Int) == 64) = false := (ieq gs.length 64).trans (decide_eq_false g64)
            have hd : decide (gs.length = 64 ∧ t1.kind = 1) = false := by simp [g64]
            have HD := Lib.hid hd
            clear g64 hd
            repeat (first | go_values | go_skip | go_guarded | go_step | go_upon)
            go_meet
            rw [HD.out]
            exact ⟨rfl, rfl⟩
        case rest =>
          obtain ⟨rfl, hw⟩ := hcut
          have hw' := hw.symm
          subst hw'
          clear hw
          have hR2 : w.heap.size + 1 < w1.heap.size := q3
          by_cases hm : gs.length = 64 ∧ t1.kind = 1
          · rw [decide_eq_true hm]
            obtain ⟨f', hf'⟩ := hon.out.many hm.1 hm.2
            have HRD := Lib.hid (show Reads (bl S) (.inl (2, (t1.pos : Int))) by unfold Reads; rw [HL.out]; exact ⟨f', .inl ⟨2, t1.pos, hf', rfl⟩⟩)
            clear hm hf'
            repeat (first | go_values | go_skip | go_guarded | go_step | go_upon)
            refine (stop_any H1.out 2).mono ?_
            rintro e w2 ⟨⟨p, rfl, hp, hl⟩, hb2⟩
            dsimp only
            repeat (first | go_values | go_skip | go_guarded | go_step | go_upon)
            exact door_fault ((hb2.block _ r2q).trans HV.out) ((hb2.block _ r3q).trans HER.out) (HGW.out.trans (hb2.mono (by omega))) hp (by omega) HRD.out rfl rfl
          · rw [decide_eq_false hm]
            by_cases h1 : t1.kind = 1
            · have h64 : gs.length ≠ 64 := fun e => hm ⟨e, h1⟩
              obtain ⟨t2, l2, rfl, hE2⟩ := HE1.out.more (by omega)
              have HE2 := Lib.hid hE2
              have H64 := Lib.hid h64
              have HK1 := Lib.hid h1
              have hmy := must_yes H1.out
              rw [h1] at hmy
              have HMY := Lib.hid hmy
              clear hm h1 h64 hmy hE2
              repeat (first | go_values | go_skip | go_guarded | go_step | go_upon)
              refine HMY.out.mono ?_
              rintro e w2 ⟨rfl, h5, g5⟩
              have H5 := Lib.hid h5
              have G5 := Lib.hid g5
              have z5 := g5.size
              have y2 := Lib.hid ((g5.block _ r2q (fun e => by have := Option.some.inj e; omega)).trans HV.out)
              have y3 := Lib.hid ((g5.block _ r3q (fun e => by have := Option.some.inj e; omega)).trans HER.out)
              have hB5 := Lib.hid (show Below w.heap.size w w2 from ⟨g5.os.trans HGW.out.os, g5.tape.trans HGW.out.tape, g5.output.trans HGW.out.output, by have := HGW.out.size; omega, fun k hk => (g5.block k (by have := HGW.out.size; omega) (fun e => by have := Option.some.inj e; omega)).trans (HGW.out.block k hk)⟩)
              clear h5 g5
              dsimp only
              by_cases ha : t2.kind = 2
              · obtain ⟨t3, l3, rfl, hE3⟩ := HE2.out.more (by omega)
                have HE3 := Lib.hid hE3
                have HA := Lib.hid ha
                have hmy := must_yes (H5.out.alloc (.cells #[.int .i64 ((1 : Nat) : Int), .string (mkS t1.text), .int .u64 (wd t1.cls 0), .int .u64 (wd t1.cls 1), .int .u64 (wd t1.cls 2), .int .u64 (wd t1.cls 3), .int .i64 (t1.pos : Int)] 96))
                rw [ha] at hmy
                have HMY2 := Lib.hid hmy
                clear ha hmy hE3
                repeat (first | go_values | go_skip | go_guarded | go_step | go_upon)
                refine HMY2.out.mono ?_
                rintro e w3 ⟨rfl, h6, g6⟩
                have H6 := Lib.hid h6
                have z6 := g6.size
                simp only [World.size_alloc] at z6
                have y2' := (g6.block w.heap.size (by simp; omega) (fun e => by have := Option.some.inj e; omega)).trans ((RowKit.Below.heap_alloc _ _ _ (by omega)).trans y2.out)
                have y3' := (g6.block (w.heap.size + 1) (by simp; omega) (fun e => by have := Option.some.inj e; omega)).trans ((RowKit.Below.heap_alloc _ _ _ (by omega)).trans y3.out)
                have Y2 := Lib.hid y2'
                have Y3 := Lib.hid y3'
                have hT := (g6.block w2.heap.size (by simp) (fun e => by have := Option.some.inj e; omega)).trans (heap_alloc_new w2 (.cells #[.int .i64 ((1 : Nat) : Int), .string (mkS t1.text), .int .u64 (wd t1.cls 0), .int .u64 (wd t1.cls 1), .int .u64 (wd t1.cls 2), .int .u64 (wd t1.cls 3), .int .i64 (t1.pos : Int)] 96))
                have hgv3 := Lib.hid ((HGV.out.gby G5.out (by omega)).below (w' := w2.alloc (.cells #[.int .i64 ((1 : Nat) : Int), .string (mkS t1.text), .int .u64 (wd t1.cls 0), .int .u64 (wd t1.cls 1), .int .u64 (wd t1.cls 2), .int .u64 (wd t1.cls 3), .int .i64 (t1.pos : Int)] 96)) (bal (Below.refl _ _) _) |>.gby g6 (by omega))
                have hB6 := Lib.hid (show Below w.heap.size w w3 from ⟨g6.os.trans hB5.out.os, g6.tape.trans hB5.out.tape, g6.output.trans hB5.out.output, by have := hB5.out.size; omega, fun k hk => (g6.block k (by have := hB5.out.size; simp; omega) (fun e => by have := Option.some.inj e; omega)).trans ((RowKit.Below.heap_alloc _ _ _ (by have := hB5.out.size; omega)).trans (hB5.out.block k hk))⟩)
                have qv : ∀ k, (Value.slice va gs.length vcap).ownBlock = some k → k < w3.heap.size := fun k hk => (hgv3.out.own.lt k hk).2
                have qv1 : ∀ k, (Value.slice va gs.length vcap).ownBlock = some k → w1.heap.size + 1 ≤ k := fun k hk => (hgv3.out.own.lt k hk).1
                have QVa := Lib.hid (fun k (hk : (Value.slice va gs.length vcap).ownBlock = some k) => (HGV.out.own.lt k hk).2)
                have QV := Lib.hid qv
                have QV1 := Lib.hid qv1
                have x2 : w3.cell? ⟨w.heap.size, 0, none⟩ = some (.slice va gs.length vcap) := (cells_at y2').1 0
                have x2f := (cells_at y2').2.1
                have x2q := (cells_at y2').2.2
                have x1 : w3.cell? ⟨w2.heap.size, 1, none⟩ = some (.string (mkS t1.text)) := (cells_at hT).1 1
                have x6 : w3.cell? ⟨w2.heap.size, 6, none⟩ = some (.int .i64 (t1.pos : Int)) := (cells_at hT).1 6
                have xq := (cells_at hT).2.2
                have HCH := Lib.hid (choice_c w1.heap.size g (t3 :: l3).length (t3 :: l3) (Nat.le_refl _) (by simp at hl1 ⊢; omega) _ _ 0 _ (H6.out.below (drew_below w3)) (by omega) HE3.out)
                have hm9 : gs.length ≤ 9000 := by simp at hl1; omega
                obtain ⟨i0, iH, iz, is, ib⟩ := info_parts info_rule
                have hgR : g < w1.heap.size := hgl1
                have hgB2 : w.heap.size + 1 < g := by omega
                clear h6 y2' y3' hT qv qv1
                dsimp only
                repeat (first | go_values | go_skip | go_guarded | go_step | go_upon)
                refine wp_region_free 2 3 (.pointer (some ⟨w.heap.size, 0, none⟩)) (.pointer (some ⟨w.heap.size + 1, 0, none⟩)) [{ target := .fn (.func 42) #[.pointer (some ⟨w.heap.size, 0, none⟩), .pointer (some ⟨w.heap.size + 1, 0, none⟩)], args := #[] }] (PanR (bl S) w) (S := fun w' => w'.cell? ⟨w2.heap.size, 1, none⟩ = some (.string (mkS t1.text)) ∧ w'.cell? ⟨w2.heap.size, 6, none⟩ = some (.int .i64 (t1.pos : Int))) (by kernel_rfl) (by kernel_rfl) ⟨rfl, rfl⟩ (fun c a w' k2 k3 kd hR => door_pan hR k2 k3 kd) ⟨x1, x6⟩ (fun hHeld => ?_)
                refine wpAnyH_take (i := 0) (v := ?_) rfl (by kernel_rfl) (by kernel_rfl) (by kernel_rfl) (fun _ _ _ h => h) (Or.inl ⟨by rfl, ?_⟩) (by assumption) ?_
                rotate_left
                · intro wz hSw; (try dsimp only at hSw); (try go_split_ands); go_simp; (try with_reducible rfl)
                try simp only [Act.put, List.setIfInBounds_toArray]
                refine wpAnyH_take (i := 2) (v := ?_) rfl (by kernel_rfl) (by kernel_rfl) (by kernel_rfl) (fun _ _ _ h => h) (Or.inl ⟨by rfl, ?_⟩) (by assumption) ?_
                rotate_left
                · intro wz hSw; (try dsimp only at hSw); (try go_split_ands); go_simp; (try with_reducible rfl)
                try simp only [Act.put]
                refine wpAnyH_take (i := 3) (v := ?_) rfl (by kernel_rfl) (by kernel_rfl) (by kernel_rfl) (fun _ _ _ h => h) (Or.inl ⟨by rfl, ?_⟩) (by assumption) ?_
                rotate_left
                · intro wz hSw; (try dsimp only at hSw); (try go_split_ands); go_simp; (try with_reducible rfl)
                try simp only [Act.put]
                refine wpAnyH_take (i := 4) (v := ?_) rfl (by kernel_rfl) (by kernel_rfl) (by kernel_rfl) (fun _ _ _ h => h) (Or.inl ⟨by rfl, ?_⟩) (by assumption) ?_
                rotate_left
                · intro wz hSw; (try dsimp only at hSw); (try go_split_ands); go_simp; (try with_reducible rfl)
                try simp only [Act.put]
                refine wpAnyH_take (i := 5) (v := ?_) rfl (by kernel_rfl) (by kernel_rfl) (by kernel_rfl) (fun _ _ _ h => h) (Or.inl ⟨by rfl, ?_⟩) (by assumption) ?_
                rotate_left
                · intro wz hSw; (try dsimp only at hSw); (try go_split_ands); go_simp; (try with_reducible rfl)
                try simp only [Act.put]
                refine wpAnyH_take (i := 6) (v := ?_) rfl (by kernel_rfl) (by kernel_rfl) (by kernel_rfl) (fun _ _ _ h => h) (Or.inl ⟨by rfl, ?_⟩) (by assumption) ?_
                rotate_left
                · intro wz hSw; (try dsimp only at hSw); (try go_split_ands); go_simp; (try with_reducible rfl)
                try simp only [Act.put]
                refine wpAnyH_ready (rs := [1, 7]) (by kernel_rfl) (by simp) ?_
                refine AllReadyH.cons rfl (fun K hK => ?_) (AllReadyH.cons rfl (fun K hK => ?_) AllReadyH.nil)
                · go_simp
                  refine hK.out _ _ hHeld (fun hHeld => ?_)
                  clear hK K
                  try simp only [Act.put, List.setIfInBounds_toArray, List.set_cons_zero, List.set_cons_succ]
                  refine wpAnyH_ready (rs := [7]) (by kernel_rfl) (by simp) ?_
                  refine AllReadyH.cons rfl (fun K hK => ?_) AllReadyH.nil
                  go_simp
                  refine HCH.out.mono ?_
                  rintro e w4 ⟨f, r, hf, hr⟩
                  cases r with
                  | err ec ex =>
                    obtain ⟨⟨p, rfl, hp, hl⟩, g7⟩ := hr
                    exact pan_fin HL.out HA.out HK1.out H64.out hon.out hf Y2.out Y3.out hB6.out g7 hp (by simp at hl; omega) (by omega) (by omega)
                  | ok n rs3 =>
                    obtain ⟨cc, rfl, hrep, ⟨o4, c4, h7⟩, g7, hE4, hlen4⟩ := hr
                    obtain ⟨k4, t4, x4, v4, l4, e1, e2, h8⟩ := hrep.form
                    obtain ⟨sa, sn, sc, rfl⟩ := h8.slice
                    obtain rfl : cc = (ndC k4 t4 x4 (.slice sa sn sc) n.pos).toArray := by rw [← e2]
                    obtain ⟨i2, i2f⟩ := gcell (b := w.heap.size) g7 (by simp; omega) (by omega)
                    obtain ⟨i6, i6f⟩ := gcell (b := w2.heap.size) g7 (by simp; omega) (by omega)
                    have z7 := g7.size
                    have q4 : w.heap.size < w4.heap.size := by have := g7.size; simp at this; omega
                    simp only [World.size_drew] at z7
                    have H7 := Lib.hid h7
                    have G7 := Lib.hid g7
                    have HR4 := Lib.hid hrep
                    have HE4 := Lib.hid hE4
                    have HO := Lib.hid (hon.out.next HK1.out H64.out HA.out hf)
                    have Y24 := Lib.hid ((g7.block w.heap.size (by simp; omega) (fun e => by have := Option.some.inj e; omega)).trans Y2.out)
                    have Y34 := Lib.hid ((g7.block (w.heap.size + 1) (by simp; omega) (fun e => by have := Option.some.inj e; omega)).trans Y3.out)
                    have hB7 := Lib.hid (show Below w.heap.size w w4 from ⟨g7.os.trans hB6.out.os, g7.tape.trans hB6.out.tape, g7.output.trans hB6.out.output, Nat.le_trans hB6.out.size g7.size, fun k hk => (g7.block k (by have := hB6.out.size; simp; omega) (fun e => by have := Option.some.inj e; omega)).trans (hB6.out.block k hk)⟩)
                    have hgv4 := Lib.hid ((hgv3.out.below (drew_below w3)).gby g7 (by omega))
                    have ho4 := Lib.hid hgv4.out.own
                    have hrep4 := Lib.hid (rep_wide hrep (P' := Blk w3.heap.size w4.heap.size) (fun b hb => ⟨by have := hb.lo; simpa using this, hb.hi⟩))
                    clear h7 g7 hrep hE4 hf e1 e2 h8
                    dsimp only [ndC]
                    refine hK.out _ _ ⟨(i6 1).trans hHeld.1, (i6 6).trans hHeld.2⟩ (fun hHeld => ?_)
                    clear hK K
                    try simp only [Act.put, List.setIfInBounds_toArray, List.set_cons_zero, List.set_cons_succ]
                    refine wpAnyH_take (i := 8) (v := ?_) rfl (by kernel_rfl) (by kernel_rfl) (by kernel_rfl) (fun _ _ _ h => h) (Or.inl ⟨by rfl, ?_⟩) (by assumption) ?_
                    rotate_left
                    · intro wz hSw; (try dsimp only at hSw); (try go_split_ands); go_simp; (try with_reducible rfl)
                    try simp only [Act.put, List.setIfInBounds_toArray]
                    refine wpAnyH_ready (rs := [9]) (by kernel_rfl) (by simp) ?_
                    refine AllReadyH.cons rfl (fun K hK => ?_) AllReadyH.nil
                    go_simp
                    refine hK.out _ _ ⟨(cell_alloc_lt _ _ _ _ (by omega)).trans hHeld.1, (cell_alloc_lt _ _ _ _ (by omega)).trans hHeld.2⟩ (fun hHeld => ?_)
                    clear hK K
                    try simp only [Act.put, List.setIfInBounds_toArray, List.set_cons_zero, List.set_cons_succ]
                    refine wpAnyH_ready (rs := [10]) (by kernel_rfl) (by simp) ?_
                    refine AllReadyH.cons rfl (fun K hK => ?_) AllReadyH.nil
                    refine step_append_lies _ (by rfl) _ _ _ (by rfl) (w1.heap.size + 1) 42 i0 _ 10 112 Tryz.underlying22 iH iz is ib rfl (by omega) _ gs.length cs (by rfl) (ho4.out.alloc _) ⟨w4.heap.size, 0, none⟩ 1 1 [.string (mkS t1.text), .int .i64 (k4 : Int), .string (mkS t4), .int .u64 (wd x4 0), .int .u64 (wd x4 1), .int .u64 (wd x4 2), .int .u64 (wd x4 3), .slice sa sn sc, .int .i64 (n.pos : Int), .int .i64 (t1.pos : Int)] (by rfl) (by rfl) (World.news_of_block (cs := #[.string (mkS t1.text), .int .i64 (k4 : Int), .string (mkS t4), .int .u64 (wd x4 0), .int .u64 (wd x4 1), .int .u64 (wd x4 2), .int .u64 (wd x4 3), .slice sa sn sc, .int .i64 (n.pos : Int), .int .i64 (t1.pos : Int)]) (t := 42) (fr := (0, 0)) (heap_alloc_new w4 (.cells #[.string (mkS t1.text), .int .i64 (k4 : Int), .string (mkS t4), .int .u64 (wd x4 0), .int .u64 (wd x4 1), .int .u64 (wd x4 2), .int .u64 (wd x4 3), .slice sa sn sc, .int .i64 (n.pos : Int), .int .i64 (t1.pos : Int)] 42))) (by simp [Value.oneCell']) (by omega) (by unfold maxLen; omega) (by omega) (by simp; omega) (w4.heap.size + 1) (by simp) ?_
                    intro gg cap5 w5 hown5 hgrow hat hlt
                    have y25 := (hgrow.block w.heap.size (by simp; omega) (fun e => by have := QV1.out _ e.symm; omega)).trans ((RowKit.Below.heap_alloc _ _ _ (by omega)).trans Y24.out)
                    have j2 : w5.cell? ⟨w.heap.size, 0, none⟩ = some (.slice va gs.length vcap) := (cells_at y25).1 0
                    have j2f := (cells_at y25).2.1
                    have j2q := (cells_at y25).2.2
                    refine hK.out _ _ ⟨(hgrow.cell_far ⟨w2.heap.size, 1, none⟩ (by simp; omega) (fun e => by have := QVa.out _ e.symm; simp at this; omega)).trans hHeld.1, (hgrow.cell_far ⟨w2.heap.size, 6, none⟩ (by simp; omega) (fun e => by have := QVa.out _ e.symm; simp at this; omega)).trans hHeld.2⟩ (fun hHeld => ?_)
                    clear hK K
                    try simp only [Act.put, List.setIfInBounds_toArray]
                    refine wpAnyH_take (i := 11) (v := ?_) rfl (by kernel_rfl) (by kernel_rfl) (by kernel_rfl) (fun _ _ _ h => h) (Or.inl ⟨by rfl, ?_⟩) (by assumption) ?_
                    rotate_left
                    · intro wz hSw; (try dsimp only at hSw); (try go_split_ands); go_simp; (try with_reducible rfl)
                    try simp only [Act.put]
                    refine wpAnyH_ready (rs := [12]) (by kernel_rfl) (by simp) ?_
                    refine AllReadyH.cons rfl (fun K hK => ?_) AllReadyH.nil
                    go_simp
                    refine hK.out _ _ ⟨(cell_set_ne _ _ _ _ _ (by simp; omega)).trans hHeld.1, (cell_set_ne _ _ _ _ _ (by simp; omega)).trans hHeld.2⟩ (fun hHeld => ?_)
                    clear hK K
                    try simp only [Act.put, List.setIfInBounds_toArray, List.set_cons_zero, List.set_cons_succ]
                    refine wpAnyH_done (by kernel_rfl) ?_ _
                    have HX := Lib.hid (PI.next (x := ⟨t1.text, n, t1.pos⟩) (l := l) rfl H7.out hgv4.out Y24.out Y34.out hB7.out (by omega) (by omega) hrep4.out QV.out (by omega) (by omega) hgrow hat hown5 HE4.out (by simp at hl1 hlen4; omega))
                    clear j2 j2f j2q y25 hown5 hgrow hat hHeld
                    dsimp only
                    repeat (first | go_values | go_skip | go_guarded | go_step | go_upon)
                    refine ⟨⟨_, _, HX.out, HO⟩, ?_⟩
                    rw [HX.out.meas, HPI.out.meas]
                    simp at hlen4 ⊢
                    omega
                · skip
                  go_simp
                  refine HCH.out.mono ?_
                  rintro e w4 ⟨f, r, hf, hr⟩
                  cases r with
                  | err ec ex =>
                    obtain ⟨⟨p, rfl, hp, hl⟩, g7⟩ := hr
                    exact pan_fin HL.out HA.out HK1.out H64.out hon.out hf Y2.out Y3.out hB6.out g7 hp (by simp at hl; omega) (by omega) (by omega)
                  | ok n rs3 =>
                    obtain ⟨cc, rfl, hrep, ⟨o4, c4, h7⟩, g7, hE4, hlen4⟩ := hr
                    obtain ⟨k4, t4, x4, v4, l4, e1, e2, h8⟩ := hrep.form
                    obtain ⟨sa, sn, sc, rfl⟩ := h8.slice
                    obtain rfl : cc = (ndC k4 t4 x4 (.slice sa sn sc) n.pos).toArray := by rw [← e2]
                    obtain ⟨i2, i2f⟩ := gcell (b := w.heap.size) g7 (by simp; omega) (by omega)
                    obtain ⟨i6, i6f⟩ := gcell (b := w2.heap.size) g7 (by simp; omega) (by omega)
                    have z7 := g7.size
                    have q4 : w.heap.size < w4.heap.size := by have := g7.size; simp at this; omega
                    simp only [World.size_drew] at z7
                    have H7 := Lib.hid h7
                    have G7 := Lib.hid g7
                    have HR4 := Lib.hid hrep
                    have HE4 := Lib.hid hE4
                    have HO := Lib.hid (hon.out.next HK1.out H64.out HA.out hf)
                    have Y24 := Lib.hid ((g7.block w.heap.size (by simp; omega) (fun e => by have := Option.some.inj e; omega)).trans Y2.out)
                    have Y34 := Lib.hid ((g7.block (w.heap.size + 1) (by simp; omega) (fun e => by have := Option.some.inj e; omega)).trans Y3.out)
                    have hB7 := Lib.hid (show Below w.heap.size w w4 from ⟨g7.os.trans hB6.out.os, g7.tape.trans hB6.out.tape, g7.output.trans hB6.out.output, Nat.le_trans hB6.out.size g7.size, fun k hk => (g7.block k (by have := hB6.out.size; simp; omega) (fun e => by have := Option.some.inj e; omega)).trans (hB6.out.block k hk)⟩)
                    have hgv4 := Lib.hid ((hgv3.out.below (drew_below w3)).gby g7 (by omega))
                    have ho4 := Lib.hid hgv4.out.own
                    have hrep4 := Lib.hid (rep_wide hrep (P' := Blk w3.heap.size w4.heap.size) (fun b hb => ⟨by have := hb.lo; simpa using this, hb.hi⟩))
                    clear h7 g7 hrep hE4 hf e1 e2 h8
                    dsimp only [ndC]
                    refine hK.out _ _ ⟨(i6 1).trans hHeld.1, (i6 6).trans hHeld.2⟩ (fun hHeld => ?_)
                    clear hK K
                    try simp only [Act.put, List.setIfInBounds_toArray, List.set_cons_zero, List.set_cons_succ]
                    refine wpAnyH_take (i := 8) (v := ?_) rfl (by kernel_rfl) (by kernel_rfl) (by kernel_rfl) (fun _ _ _ h => h) (Or.inl ⟨by rfl, ?_⟩) (by assumption) ?_
                    rotate_left
                    · intro wz hSw; (try dsimp only at hSw); (try go_split_ands); go_simp; (try with_reducible rfl)
                    try simp only [Act.put, List.setIfInBounds_toArray]
                    refine wpAnyH_ready (rs := [1, 9]) (by kernel_rfl) (by simp) ?_
                    refine AllReadyH.cons rfl (fun K hK => ?_) (AllReadyH.cons rfl (fun K hK => ?_) AllReadyH.nil)
                    · go_simp
                      refine hK.out _ _ hHeld (fun hHeld => ?_)
                      clear hK K
                      try simp only [Act.put, List.setIfInBounds_toArray, List.set_cons_zero, List.set_cons_succ]
                      refine wpAnyH_ready (rs := [9]) (by kernel_rfl) (by simp) ?_
                      refine AllReadyH.cons rfl (fun K hK => ?_) AllReadyH.nil
                      go_simp
                      refine hK.out _ _ ⟨(cell_alloc_lt _ _ _ _ (by omega)).trans hHeld.1, (cell_alloc_lt _ _ _ _ (by omega)).trans hHeld.2⟩ (fun hHeld => ?_)
                      clear hK K
                      try simp only [Act.put, List.setIfInBounds_toArray, List.set_cons_zero, List.set_cons_succ]
                      refine wpAnyH_ready (rs := [10]) (by kernel_rfl) (by simp) ?_
                      refine AllReadyH.cons rfl (fun K hK => ?_) AllReadyH.nil
                      refine step_append_lies _ (by rfl) _ _ _ (by rfl) (w1.heap.size + 1) 42 i0 _ 10 112 Tryz.underlying22 iH iz is ib rfl (by omega) _ gs.length cs (by rfl) (ho4.out.alloc _) ⟨w4.heap.size, 0, none⟩ 1 1 [.string (mkS t1.text), .int .i64 (k4 : Int), .string (mkS t4), .int .u64 (wd x4 0), .int .u64 (wd x4 1), .int .u64 (wd x4 2), .int .u64 (wd x4 3), .slice sa sn sc, .int .i64 (n.pos : Int), .int .i64 (t1.pos : Int)] (by rfl) (by rfl) (World.news_of_block (cs := #[.string (mkS t1.text), .int .i64 (k4 : Int), .string (mkS t4), .int .u64 (wd x4 0), .int .u64 (wd x4 1), .int .u64 (wd x4 2), .int .u64 (wd x4 3), .slice sa sn sc, .int .i64 (n.pos : Int), .int .i64 (t1.pos : Int)]) (t := 42) (fr := (0, 0)) (heap_alloc_new w4 (.cells #[.string (mkS t1.text), .int .i64 (k4 : Int), .string (mkS t4), .int .u64 (wd x4 0), .int .u64 (wd x4 1), .int .u64 (wd x4 2), .int .u64 (wd x4 3), .slice sa sn sc, .int .i64 (n.pos : Int), .int .i64 (t1.pos : Int)] 42))) (by simp [Value.oneCell']) (by omega) (by unfold maxLen; omega) (by omega) (by simp; omega) (w4.heap.size + 1) (by simp) ?_
                      intro gg cap5 w5 hown5 hgrow hat hlt
                      have y25 := (hgrow.block w.heap.size (by simp; omega) (fun e => by have := QV1.out _ e.symm; omega)).trans ((RowKit.Below.heap_alloc _ _ _ (by omega)).trans Y24.out)
                      have j2 : w5.cell? ⟨w.heap.size, 0, none⟩ = some (.slice va gs.length vcap) := (cells_at y25).1 0
                      have j2f := (cells_at y25).2.1
                      have j2q := (cells_at y25).2.2
                      refine hK.out _ _ ⟨(hgrow.cell_far ⟨w2.heap.size, 1, none⟩ (by simp; omega) (fun e => by have := QVa.out _ e.symm; simp at this; omega)).trans hHeld.1, (hgrow.cell_far ⟨w2.heap.size, 6, none⟩ (by simp; omega) (fun e => by have := QVa.out _ e.symm; simp at this; omega)).trans hHeld.2⟩ (fun hHeld => ?_)
                      clear hK K
                      try simp only [Act.put, List.setIfInBounds_toArray]
                      refine wpAnyH_take (i := 11) (v := ?_) rfl (by kernel_rfl) (by kernel_rfl) (by kernel_rfl) (fun _ _ _ h => h) (Or.inl ⟨by rfl, ?_⟩) (by assumption) ?_
                      rotate_left
                      · intro wz hSw; (try dsimp only at hSw); (try go_split_ands); go_simp; (try with_reducible rfl)
                      try simp only [Act.put]
                      refine wpAnyH_ready (rs := [12]) (by kernel_rfl) (by simp) ?_
                      refine AllReadyH.cons rfl (fun K hK => ?_) AllReadyH.nil
                      go_simp
                      refine hK.out _ _ ⟨(cell_set_ne _ _ _ _ _ (by simp; omega)).trans hHeld.1, (cell_set_ne _ _ _ _ _ (by simp; omega)).trans hHeld.2⟩ (fun hHeld => ?_)
                      clear hK K
                      try simp only [Act.put, List.setIfInBounds_toArray, List.set_cons_zero, List.set_cons_succ]
                      refine wpAnyH_done (by kernel_rfl) ?_ _
                      have HX := Lib.hid (PI.next (x := ⟨t1.text, n, t1.pos⟩) (l := l) rfl H7.out hgv4.out Y24.out Y34.out hB7.out (by omega) (by omega) hrep4.out QV.out (by omega) (by omega) hgrow hat hown5 HE4.out (by simp at hl1 hlen4; omega))
                      clear j2 j2f j2q y25 hown5 hgrow hat hHeld
                      dsimp only
                      repeat (first | go_values | go_skip | go_guarded | go_step | go_upon)
                      refine ⟨⟨_, _, HX.out, HO⟩, ?_⟩
                      rw [HX.out.meas, HPI.out.meas]
                      simp at hlen4 ⊢
                      omega
                    · skip
                      go_simp
                      refine hK.out _ _ ⟨(cell_alloc_lt _ _ _ _ (by omega)).trans hHeld.1, (cell_alloc_lt _ _ _ _ (by omega)).trans hHeld.2⟩ (fun hHeld => ?_)
                      clear hK K
                      try simp only [Act.put, List.setIfInBounds_toArray, List.set_cons_zero, List.set_cons_succ]
                      refine wpAnyH_ready (rs := [1]) (by kernel_rfl) (by simp) ?_
                      refine AllReadyH.cons rfl (fun K hK => ?_) AllReadyH.nil
                      go_simp
                      refine hK.out _ _ hHeld (fun hHeld => ?_)
                      clear hK K
                      try simp only [Act.put, List.setIfInBounds_toArray, List.set_cons_zero, List.set_cons_succ]
                      refine wpAnyH_ready (rs := [10]) (by kernel_rfl) (by simp) ?_
                      refine AllReadyH.cons rfl (fun K hK => ?_) AllReadyH.nil
                      refine step_append_lies _ (by rfl) _ _ _ (by rfl) (w1.heap.size + 1) 42 i0 _ 10 112 Tryz.underlying22 iH iz is ib rfl (by omega) _ gs.length cs (by rfl) (ho4.out.alloc _) ⟨w4.heap.size, 0, none⟩ 1 1 [.string (mkS t1.text), .int .i64 (k4 : Int), .string (mkS t4), .int .u64 (wd x4 0), .int .u64 (wd x4 1), .int .u64 (wd x4 2), .int .u64 (wd x4 3), .slice sa sn sc, .int .i64 (n.pos : Int), .int .i64 (t1.pos : Int)] (by rfl) (by rfl) (World.news_of_block (cs := #[.string (mkS t1.text), .int .i64 (k4 : Int), .string (mkS t4), .int .u64 (wd x4 0), .int .u64 (wd x4 1), .int .u64 (wd x4 2), .int .u64 (wd x4 3), .slice sa sn sc, .int .i64 (n.pos : Int), .int .i64 (t1.pos : Int)]) (t := 42) (fr := (0, 0)) (heap_alloc_new w4 (.cells #[.string (mkS t1.text), .int .i64 (k4 : Int), .string (mkS t4), .int .u64 (wd x4 0), .int .u64 (wd x4 1), .int .u64 (wd x4 2), .int .u64 (wd x4 3), .slice sa sn sc, .int .i64 (n.pos : Int), .int .i64 (t1.pos : Int)] 42))) (by simp [Value.oneCell']) (by omega) (by unfold maxLen; omega) (by omega) (by simp; omega) (w4.heap.size + 1) (by simp) ?_
                      intro gg cap5 w5 hown5 hgrow hat hlt
                      have y25 := (hgrow.block w.heap.size (by simp; omega) (fun e => by have := QV1.out _ e.symm; omega)).trans ((RowKit.Below.heap_alloc _ _ _ (by omega)).trans Y24.out)
                      have j2 : w5.cell? ⟨w.heap.size, 0, none⟩ = some (.slice va gs.length vcap) := (cells_at y25).1 0
                      have j2f := (cells_at y25).2.1
                      have j2q := (cells_at y25).2.2
                      refine hK.out _ _ ⟨(hgrow.cell_far ⟨w2.heap.size, 1, none⟩ (by simp; omega) (fun e => by have := QVa.out _ e.symm; simp at this; omega)).trans hHeld.1, (hgrow.cell_far ⟨w2.heap.size, 6, none⟩ (by simp; omega) (fun e => by have := QVa.out _ e.symm; simp at this; omega)).trans hHeld.2⟩ (fun hHeld => ?_)
                      clear hK K
                      try simp only [Act.put, List.setIfInBounds_toArray]
                      refine wpAnyH_take (i := 11) (v := ?_) rfl (by kernel_rfl) (by kernel_rfl) (by kernel_rfl) (fun _ _ _ h => h) (Or.inl ⟨by rfl, ?_⟩) (by assumption) ?_
                      rotate_left
                      · intro wz hSw; (try dsimp only at hSw); (try go_split_ands); go_simp; (try with_reducible rfl)
                      try simp only [Act.put]
                      refine wpAnyH_ready (rs := [12]) (by kernel_rfl) (by simp) ?_
                      refine AllReadyH.cons rfl (fun K hK => ?_) AllReadyH.nil
                      go_simp
                      refine hK.out _ _ ⟨(cell_set_ne _ _ _ _ _ (by simp; omega)).trans hHeld.1, (cell_set_ne _ _ _ _ _ (by simp; omega)).trans hHeld.2⟩ (fun hHeld => ?_)
                      clear hK K
                      try simp only [Act.put, List.setIfInBounds_toArray, List.set_cons_zero, List.set_cons_succ]
                      refine wpAnyH_done (by kernel_rfl) ?_ _
                      have HX := Lib.hid (PI.next (x := ⟨t1.text, n, t1.pos⟩) (l := l) rfl H7.out hgv4.out Y24.out Y34.out hB7.out (by omega) (by omega) hrep4.out QV.out (by omega) (by omega) hgrow hat hown5 HE4.out (by simp at hl1 hlen4; omega))
                      clear j2 j2f j2q y25 hown5 hgrow hat hHeld
                      dsimp only
                      repeat (first | go_values | go_skip | go_guarded | go_step | go_upon)
                      refine ⟨⟨_, _, HX.out, HO⟩, ?_⟩
                      rw [HX.out.meas, HPI.out.meas]
                      simp at hlen4 ⊢
                      omega
              · obtain ⟨f', hf'⟩ := hon.out.noArrow HK1.out H64.out ha
                have HRD := Lib.hid (show Reads (bl S) (.inl (badE (t2 :: l2), (t2.pos : Int))) by unfold Reads; rw [HL.out]; exact ⟨f', .inl ⟨_, t2.pos, hf', rfl⟩⟩)
                have hmn := Lib.hid (must_no (k := 2) (H5.out.alloc (.cells #[.int .i64 ((1 : Nat) : Int), .string (mkS t1.text), .int .u64 (wd t1.cls 0), .int .u64 (wd t1.cls 1), .int .u64 (wd t1.cls 2), .int .u64 (wd t1.cls 3), .int .i64 (t1.pos : Int)] 96)) ha)
                clear hf' ha
                repeat (first | go_values | go_skip | go_guarded | go_step | go_upon)
                refine hmn.out.mono ?_
                rintro e w3 ⟨⟨p, rfl, hp, hl⟩, hb3⟩
                simp only [World.size_alloc] at hl
                dsimp only
                repeat (first | go_values | go_skip | go_guarded | go_step | go_upon)
                exact door_fault ((hb3.block _ (by simp; omega)).trans ((RowKit.Below.heap_alloc _ _ _ (by omega)).trans y2.out)) ((hb3.block _ (by simp; omega)).trans ((RowKit.Below.heap_alloc _ _ _ (by omega)).trans y3.out)) ((hB5.out.alloc (by omega) _).trans (hb3.mono (by simp; omega))) hp (by omega) HRD.out rfl rfl
            · obtain ⟨f', hf'⟩ := hon.out.noName (by have := HST.out; omega) h1
              have HRD := Lib.hid (show Reads (bl S) (.inl (badE (t1 :: l1), (t1.pos : Int))) by unfold Reads; rw [HL.out]; exact ⟨f', .inl ⟨_, t1.pos, hf', rfl⟩⟩)
              have hmn := Lib.hid (must_no (k := 1) H1.out h1)
              clear hm hf' h1
              repeat (first | go_values | go_skip | go_guarded | go_step | go_upon)
              refine hmn.out.mono ?_
              rintro e w2 ⟨⟨p, rfl, hp, hl⟩, hb2⟩
              dsimp only
              repeat (first | go_values | go_skip | go_guarded | go_step | go_upon)
              exact door_fault ((hb2.block _ r2q).trans HV.out) ((hb2.block _ r3q).trans HER.out) (HGW.out.trans (hb2.mono (by omega))) hp (by omega) HRD.out rfl rfl
end Go.Proofs.YtjlcoldnhbkcgaaGreatDoor
