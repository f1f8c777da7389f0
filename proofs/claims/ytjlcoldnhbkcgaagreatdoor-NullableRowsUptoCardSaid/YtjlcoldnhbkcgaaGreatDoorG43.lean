/- nullable: a table's expr of any tree that may be printed. | Two answers compared. | nullable.rules: the least answers. | nullable.known: whether all Refs mean rules. | nullable.Expr. -/
import Derived.Test.YtjlcoldnhbkcgaaGreatDoorG42
import Derived.Test.YtjlcoldnhbkcgaaGreatDoorG4
import Derived.Test.YtjlcoldnhbkcgaaGreatDoorG41
namespace Go.Proofs.YtjlcoldnhbkcgaaGreatDoor
open Go.RowKit Go.Sort

set_option maxRecDepth 100000 in
set_option maxHeartbeats 6400000 in
theorem nexpr_kx (m : Nat) {T : List UInt8 → Ot} {k : Int} (hk : k = 8 ∨ k = 9 ∨ k = 10 ∨ k = 11 ∨ k = 12) {t : List UInt8} {c : BitVec 256} {x : Tr} {v : Value} {z : Nat} {p : Int} {P : Nat → Prop} (w : World) (hT : Tab w m z T) (hl : RepL w P [x] v) (hP : ∀ b, P b → b < w.heap.size) (ih : ExC m T x) : Calls Tryz.prog 26 #[.map (some m), .agg (trC k t c v p).toArray] w (Ans (.agg (otC (otA k (exT T x))).toArray) w) := by
  rcases hl.parts with ⟨e, _⟩ | ⟨e, _⟩ | ⟨gg, o, cap', rfl, hgg, _, hcp, hmx, hr⟩
  · cases e
  · cases e
  obtain ⟨k1, t1, x1, sa, sn, sc, p1, l1, eb, q0, _, a0, a1, a2, a3, a4, a5, a6, a7⟩ := hr.get (i := 0) (x := x) rfl
  have hm1 := cell_alloc_lt
  have k8 := decide_eq_false (show ¬ k = 1 by omega)
  have d1 : (k == 1) = false := by simp; omega
  have d5 : (k == 5) = false := by simp; omega
  have d2 : (k == 2) = false := by simp; omega
  have d3 : (k == 3) = false := by simp; omega
  have d4 : (k == 4) = false := by simp; omega
  have d6 : (k == 6) = false := by simp; omega
  have d7 : (k == 7) = false := by simp; omega
  have qg := hP gg hgg
  have qg1 : gg < w.heap.size + 1 := by omega
  have qg2 : gg < w.heap.size + 1 + 1 := by omega
  have q1 : ∀ w', Below w.heap.size w w' → RepA w' P x (trC k1 t1 x1 (.slice sa sn sc) p1) := fun w' h => q0.mono (fun b' hb' => h.block b' (hP b' hb')) (fun _ h => h)
  have HX := Lib.hid (fun (w' : World) (h : Below w.heap.size w w') => ih w' P _ z (hT.below h) (q1 w' h) (fun b' hb' => by have h1 := hP b' hb'; have h2 := h.size; omega))
  obtain ⟨o1, ho1⟩ : ∃ o1, o1 = exT T x := ⟨_, rfl⟩
  rw [← ho1] at HX ⊢
  have HF := Lib.hid (fun w' => alone_any k o1 w')
  obtain ⟨o2, ho2⟩ : ∃ o2, o2 = otA k o1 := ⟨_, rfl⟩
  rw [← ho2] at HF ⊢
  have HS := Lib.hid (show Obk (w.heap.size + 1 + 1) ot0 (((w.alloc (.cells (trC k t c (.slice (some ⟨gg, o, none⟩) 1 cap') p).toArray 40)).alloc (.cells (otC ot0).toArray 32)).alloc (.cells (otC ot0).toArray 32)) from by
    have h := heap_alloc_new ((w.alloc (.cells (trC k t c (.slice (some ⟨gg, o, none⟩) 1 cap') p).toArray 40)).alloc (.cells (otC ot0).toArray 32)) (.cells (otC ot0).toArray 32)
    unfold Obk
    simpa using h)
  have HS2 := Lib.hid (show Obk (w.heap.size + 1) ot0 (((w.alloc (.cells (trC k t c (.slice (some ⟨gg, o, none⟩) 1 cap') p).toArray 40)).alloc (.cells (otC ot0).toArray 32)).alloc (.cells (otC ot0).toArray 32)) from by
    have h := heap_alloc_new (w.alloc (.cells (trC k t c (.slice (some ⟨gg, o, none⟩) 1 cap') p).toArray 40)) (.cells (otC ot0).toArray 32)
    unfold Obk
    rw [RowKit.Below.heap_alloc _ _ _ (by simp)]
    simpa using h)
  have HW0 := Lib.hid (show Below w.heap.size w (((w.alloc (.cells (trC k t c (.slice (some ⟨gg, o, none⟩) 1 cap') p).toArray 40)).alloc (.cells (otC ot0).toArray 32)).alloc (.cells (otC ot0).toArray 32)) from bal (bal (bal (Below.refl _ w) _) _) _)
  have HN := Lib.hid (show (((w.alloc (.cells (trC k t c (.slice (some ⟨gg, o, none⟩) 1 cap') p).toArray 40)).alloc (.cells (otC ot0).toArray 32)).alloc (.cells (otC ot0).toArray 32)).heap[w.heap.size]? = some (.cells (trC k t c (.slice (some ⟨gg, o, none⟩) 1 cap') p).toArray 40 (0, 0)) from by
    rw [RowKit.Below.heap_alloc _ _ _ (by simp; omega), RowKit.Below.heap_alloc _ _ _ (by simp), heap_alloc_new])
  clear eb hl hr q0 q1 ih hT ho1 ho2 hP hk
  obtain ⟨b1, b2, b3⟩ := o1
  obtain ⟨f1, f2, f3⟩ := o2
  dsimp only [trC, otC, ot0, List.length_cons, List.length_nil, Nat.reduceAdd] at HX HF HS HS2 HW0 HN ⊢
  simp only [Nat.zero_mul, Nat.add_zero] at a0 a1 a2 a3 a4 a5 a6 a7
  go_enter Tryz.func26, Tryz.ntmps26
  repeat (first | go_values | go_skip | go_guarded | go_step | go_upon)
  go_region_with (first | (go_at_call 26; refine (HX.out _ (bdr HW0.out)).mono ?_; rintro e w2 ⟨rfl, hb2⟩; have kb2 := (drew_below _).trans (hb2.mono (by simp)); have kw2 := HW0.out.trans (kb2.mono (by simp; omega)); have k2 := HS.out.below kb2; have k2' := HS2.out.below kb2; have kn := (cells_at ((kb2.block _ (by simp; omega)).trans HN.out)).1 0; obtain ⟨u0, u1, u2, u3, u4⟩ := k2.cells; dsimp only at u0 u1 u2; try dsimp only) | (go_at_call 49; refine (HF.out _).mono ?_; rintro e w3 ⟨rfl, hb3⟩; have kw3 := kw2.trans (hb3.mono (by have := kw2.size; exact this)); have k3 := k2.below hb3; have k3' := k2'.below hb3; obtain ⟨v0, v1, v2, v3, v4⟩ := k3.cells; obtain ⟨s0, s1, s2, s3, s4⟩ := (k3'.set_ne (show w.heap.size + 1 ≠ w.heap.size + 1 + 1 by omega) (.bool f1) (.bool f2) (.bool f3)).cells; dsimp only at v0 v1 v2 s0 s1 s2; try dsimp only))
  all_goals
    repeat (first | go_values | go_skip | go_guarded | go_step | go_upon)
    refine bodyPost_ret (v := .agg #[.bool f1, .bool f2, .bool f3]) (by simp [results, Tryz.results26, go_sem, s0, s1, s2]; done) rfl ⟨rfl, ?_⟩
    exact (((((kw3.setCell (by simp; omega) _).setCell (by simp; omega) _).setCell (by simp; omega) _).setCell (by simp) _).setCell (by simp) _).setCell (by simp) _
theorem few_of {l : List Tr} (hb : Tr.bulks l ≤ 1000000000) : l.length ≤ 1000000000 := by
  have := bulks_len l
  omega
theorem nexpr_any {m : Nat} {T : List UInt8 → Ot} {n : Tr} (h : OkT n) : n.bulk ≤ 1000000000 → ExC m T n := by
  induction h with
  | empty =>
    intro _ w P cs z hT hr hP
    cases hr with
    | mk hl =>
      obtain ⟨a, cap, rfl, _⟩ := hl.slice
      exact nexpr_k1 m w
  | @lit t p ht =>
    intro _ w P cs z hT hr hP
    cases hr with
    | mk hl =>
      obtain ⟨a, cap, rfl, _⟩ := hl.slice
      exact nexpr_k2 m w _ rfl
  | @set x p =>
    intro _ w P cs z hT hr hP
    cases hr with
    | mk hl =>
      obtain ⟨a, cap, rfl, _⟩ := hl.slice
      exact nexpr_k3 m w
  | any =>
    intro _ w P cs z hT hr hP
    cases hr with
    | mk hl =>
      obtain ⟨a, cap, rfl, _⟩ := hl.slice
      exact nexpr_k4 m w
  | @ref t p ht =>
    intro _ w P cs z hT hr hP
    cases hr with
    | mk hl =>
      obtain ⟨a, cap, rfl, _⟩ := hl.slice
      exact nexpr_k5 m w hT (Nat.le_trans (isName_len ht) (by decide))
  | @seq l p hl1 ho ih =>
    intro hb w P cs z hT hr hP
    cases hr with
    | mk hl =>
      rw [Tr.bulk] at hb
      exact nexpr_k6 m w hT hl hP (few_of (by omega)) (fun x hx => ih x hx (by have := bulk_mem hx; omega))
  | @alt l p hl1 ho ih =>
    intro hb w P cs z hT hr hP
    cases hr with
    | mk hl =>
      rw [Tr.bulk] at hb
      exact nexpr_k7 m w hT hl hP (few_of (by omega)) (fun x hx => ih x hx (by have := bulk_mem hx; omega))
  | @post k p n hk ho ih =>
    intro hb w P cs z hT hr hP
    cases hr with
    | mk hl =>
      rw [Tr.bulk] at hb
      have h := nexpr_kx m (k := k) (t := []) (c := 0) (p := p) (by omega) w hT hl hP (ih (by simp only [Tr.bulks] at hb; omega))
      rw [exT]
      rcases hk with rfl | rfl | rfl <;> exact h
  | @pre k p n hk ho ih =>
    intro hb w P cs z hT hr hP
    cases hr with
    | mk hl =>
      rw [Tr.bulk] at hb
      have h := nexpr_kx m (k := k) (t := []) (c := 0) (p := p) (by omega) w hT hl hP (ih (by simp only [Tr.bulks] at hb; omega))
      rw [exT]
      rcases hk with rfl | rfl <;> exact h
end Go.Proofs.YtjlcoldnhbkcgaaGreatDoor
namespace Go.Proofs.YtjlcoldnhbkcgaaGreatDoor
open Go.RowKit Go.Sort

theorem guard_out : Tryz.prog.eqGuardType Tryz.prog.depth 32 = false := by kernel_rfl
set_option maxRecDepth 100000 in
theorem equal_out (w : World) (a0 a1 a2 b0 b1 b2 : Bool) : (Op.equalIn 10000 32 (.agg #[.bool a0, .bool a1, .bool a2]) (.agg #[.bool b0, .bool b1, .bool b2])).run Tryz.prog w = .ok (a0 == b0 && (a1 == b1 && a2 == b2)) w := by
  cases a0 <;> cases a1 <;> cases a2 <;> cases b0 <;> cases b1 <;> cases b2 <;> kernel_rfl
theorem equal_ot (w : World) (a b : Ot) : (Op.equalIn 10000 32 (.agg (otC a).toArray) (.agg (otC b).toArray)).run Tryz.prog w = .ok (decide (a = b)) w := by
  obtain ⟨a0, a1, a2⟩ := a
  obtain ⟨b0, b1, b2⟩ := b
  rw [otC, otC, equal_out]
  cases a0 <;> cases a1 <;> cases a2 <;> cases b0 <;> cases b1 <;> cases b2 <;> kernel_rfl
end Go.Proofs.YtjlcoldnhbkcgaaGreatDoor
namespace Go.Proofs.YtjlcoldnhbkcgaaGreatDoor
open Go.RowKit Go.Sort Go.Maps

theorem opnS_zero (g : List Rr) : opnS g (fun _ => ot0) = 3 * g.length := by
  unfold opnS
  induction g with
  | nil => rfl
  | cons y g ih => rw [List.map_cons, List.sum_cons, List.length_cons, ih]; show 3 + 3 * g.length = _; omega
def isT : Value → Nat
  | .bool true => 1
  | _ => 0
/-- What stands between two rounds over the rules. -/
structure Rnd (g : List Rr) (b : Nat) (T : List UInt8 → Ot) (w : World) : Prop where
  tab : ∃ c, Tab w b c T ∧ c + opnS g T ≤ 3 * g.length
  rise : Rise g T
/-- What stands between two rules. -/
structure Mdl (g : List Rr) (T0 : List UInt8 → Ot) (j : Nat) (q : Bool) (T : List UInt8 → Ot) : Prop where
  le : TLe T0 T
  no : q = false → T = T0 ∧ ∀ y ∈ g.take j, exT T y.body = T y.name
  yes : q = true → opnS g T < opnS g T0
theorem mdl_start (g : List Rr) (T : List UInt8 → Ot) : Mdl g T 0 false T := ⟨fun _ => Ot.le_refl _, fun _ => ⟨rfl, fun y hy => by simp at hy⟩, fun h => by cases h⟩
theorem Mdl.same {g : List Rr} {T0 T : List UInt8 → Ot} {j : Nat} {q : Bool} (h : Mdl g T0 j q T) {y : Rr} (hy : g[j]? = some y) (he : exT T y.body = T y.name) : Mdl g T0 (j + 1) q T := by
  refine ⟨h.le, fun hq => ⟨(h.no hq).1, fun x hx => ?_⟩, h.yes⟩
  rw [gtake_snoc hy] at hx
  rcases List.mem_append.1 hx with hx | hx
  · exact (h.no hq).2 x hx
  · rw [List.mem_singleton.1 hx]; exact he
theorem Mdl.other {g : List Rr} {T0 T : List UInt8 → Ot} {j : Nat} {q : Bool} (h : Mdl g T0 j q T) (hr : Rise g T) {y : Rr} (hy : y ∈ g) (he : exT T y.body ≠ T y.name) : Mdl g T0 (j + 1) true (upd T y.name (exT T y.body)) ∧ opnS g (upd T y.name (exT T y.body)) < opnS g T := by
  have h1 := upd_le (hr.up y hy)
  have h2 : opnS g (upd T y.name (exT T y.body)) < opnS g T := opnS_lt h1 hy (by rw [show upd T y.name (exT T y.body) y.name = exT T y.body from if_pos rfl]; exact fun e => he e.symm)
  refine ⟨⟨fun n => Ot.le_trans (h.le n) (h1 n), fun e => (by cases e), fun _ => ?_⟩, h2⟩
  have := opnS_le (g := g) h.le
  omega
set_option maxRecDepth 100000 in
set_option maxHeartbeats 6400000 in
theorem nrules_any {g : List Rr} {v : Value} {P : Nat → Prop} (w : World) (hr : RepGr w P g v) (hP : ∀ b, P b → b < w.heap.size) (ha : Apart g) (hok : ∀ y ∈ g, OkR y) (hb : Rr.bulks g ≤ 1000000000) (h64 : g.length ≤ 1000000) : Calls Tryz.prog 23 #[.agg #[v]] w (fun e w' => ∃ (b : Nat) (T : List UInt8 → Ot) (c : Nat), e = .returned (.map (some b)) ∧ w.heap.size ≤ b ∧ Tab w' b c T ∧ Least g T ∧ Below w.heap.size w w') := by
  obtain ⟨n, hn⟩ : ∃ n, n = g.length := ⟨_, rfl⟩
  obtain ⟨a, cap, rfl, hcap, hmax⟩ := hr.slice
  have HR := Lib.hid hr
  have HP := Lib.hid hP
  have HA := Lib.hid ha
  have HK := Lib.hid hok
  have HBK := Lib.hid hb
  rw [← hn] at HR h64 hcap ⊢
  have HN := Lib.hid hn
  have hm1 := cell_alloc_lt
  clear hr hP hmax hn ha hok hb
  have hmk : ∀ w : World, (Instr.makeMap 63 none).run Tryz.prog w = .ok (.map (some w.heap.size)) (w.alloc (.map #[] 0)) := fun w => rfl
  go_enter Tryz.func23, Tryz.ntmps23
  repeat (first | go_values | go_skip | go_guarded | go_step | go_upon)
  go_loopw [4] (fun tt wr => ∃ (q : Bool) (T : List UInt8 → Ot), tt = .bool q ∧ Hid (Rnd g (w.heap.size + 1) T wr) ∧ Hid (q = false → ∀ y ∈ g, exT T y.body = T y.name) ∧ Hid (wr.heap[w.heap.size]? = some (.cells #[.slice a n cap] 24 (0, 0))) ∧ Below w.heap.size w wr) (fun tt wr => 2 * opnS g (tabOf wr (w.heap.size + 1)) + isT tt)
  case atStart =>
    refine ⟨true, fun _ => ot0, rfl, Lib.hid ⟨⟨0, ⟨.map [], ?_, tab_nil⟩, by rw [opnS_zero]; omega⟩, rise_start g⟩, Lib.hid (fun h => by cases h), Lib.hid ?_, bal (bal (Below.refl _ w) _) _⟩
    · have h := World.ownsMap_made (w.alloc (.cells #[.slice a n cap] 24)) Tryz.prog 9 outElem
      simpa using h
    · rw [RowKit.Below.heap_alloc _ _ _ (by simp), heap_alloc_new]
  case round =>
    obtain ⟨q, T0, rfl, HT, HF, HG, hbw⟩ := hrel
    have HW := Lib.hid hbw
    have hz := hbw.size
    have cg := (cells_at HG.out).1 0
    have qg0 := (cells_at HG.out).2.2
    have HM0 := Lib.hid (show tabOf wr (w.heap.size + 1) = T0 by obtain ⟨c, h, _⟩ := HT.out.tab; exact h.of)
    clear hbw
    cases q with
    | false =>
      repeat (first | go_values | go_skip | go_guarded | go_step | go_upon)
      go_ret
      obtain ⟨c, hc, _⟩ := HT.out.tab
      exact ⟨_, T0, c, rfl, by omega, hc, ⟨HF.out rfl, HT.out.rise.low⟩, HW.out⟩
    | true =>
      repeat (first | go_values | go_skip | go_guarded | go_step | go_upon)
      go_loopw [4, 13] (fun qq tt wq => ∃ (j : Nat) (q : Bool) (T : List UInt8 → Ot), tt = .int .i64 (j : Int) ∧ qq = .bool q ∧ j ≤ n ∧ Hid (Rnd g (w.heap.size + 1) T wq) ∧ Hid (Mdl g T0 j q T) ∧ Hid (wq.heap[w.heap.size]? = some (.cells #[.slice a n cap] 24 (0, 0))) ∧ Below w.heap.size w wq) (fun _ tt _ => n - (intOf tt).toNat)
      case atStart => exact ⟨0, false, T0, rfl, rfl, Nat.zero_le _, HT, Lib.hid (mdl_start g T0), HG, HW.out⟩
      case round =>
        obtain ⟨j, q, T, rfl, rfl, hj, HT1, HM, HG1, hbq⟩ := hrel
        have HW1 := Lib.hid hbq
        have hz1 := hbq.size
        have qg1 := (cells_at HG1.out).2.2
        clear hbq
        by_cases hlt : j < n
        · have hlt2 : j < g.length := by rw [← HN.out]; exact hlt
          obtain ⟨y, hy⟩ : ∃ y, g[j]? = some y := ⟨g[j], List.getElem?_eq_getElem hlt2⟩
          have hmem := List.mem_of_getElem? hy
          rcases HR.out.parts with ⟨e, _⟩ | ⟨e, _⟩ | ⟨gg, o, cap', e, hgg, _, hcp, hmx, hr⟩
          · rw [e] at hlt2; simp at hlt2
          · rw [e] at hlt2; simp at hlt2
          · obtain rfl : a = some ⟨gg, o, none⟩ := by injection e
            have hr1 := hr.mono (w' := wr) (P' := P) (fun b' hb' => HW1.out.block b' (HP.out b' hb')) (fun _ h => h) hgg
            obtain ⟨k1, t1, x1, sa, sn, sc, p1, l1, eb, q0, _, a9, a0, a1, a2, a3, a4, a5, a6, a7, a8⟩ := hr1.get hy
            have d1 : decide ((j : Int) < n) = true := by simpa using hlt
            have k5 : IntKind.i64.wrap ((j : Int) + 1) = (j : Int) + 1 := by rw [IntKind.wrap_i64]; omega
            obtain ⟨c, hTc, hcn⟩ := HT1.out.tab
            have hOk := HK.out y hmem
            have hIH := nexpr_any (m := w.heap.size + 1) (T := T) hOk.2 (by have := bulk_rule hmem; have := HBK.out; rw [Rr.bulk] at *; omega)
            have q1 : ∀ w', Below wr.heap.size wr w' → RepA w' P y.body (trC k1 t1 x1 (.slice sa sn sc) p1) := fun w' h => q0.mono (fun b' hb' => h.block b' (Nat.lt_of_lt_of_le (HP.out b' hb') hz1)) (fun _ h => h)
            have HX := Lib.hid (fun (w' : World) (h : Below wr.heap.size wr w') => hIH w' P _ c (hTc.below h) (q1 w' h) (fun b' hb' => by have h1 := HP.out b' hb'; have h2 := h.size; omega))
            have HTC := Lib.hid hTc
            have hnl : y.name.length ≤ 1000000 := Nat.le_trans (isName_len hOk.1) (by decide)
            have HNL := Lib.hid hnl
            have HY := Lib.hid hy
            have HME := Lib.hid hmem
            have qgg := Nat.lt_of_lt_of_le (HP.out gg hgg) hz1
            obtain ⟨o1, ho1⟩ : ∃ o1, o1 = exT T y.body := ⟨_, rfl⟩
            rw [← ho1] at HX
            have HO1 := Lib.hid ho1
            obtain ⟨o2, ho2⟩ : ∃ o2, o2 = T y.name := ⟨_, rfl⟩
            have HO2 := Lib.hid ho2
            clear eb e hr hr1 q0 q1 hIH hy hmem hTc hOk hnl ho1 ho2
            dsimp only [trC] at HX
            have hi0 := (show isT (.bool true) = 1 from rfl)
            by_cases he : o1 = o2
            · have HE := Lib.hid (show exT T y.body = T y.name by rw [← HO1.out, ← HO2.out]; exact he)
              have f7 := guard_out
              have f8 : ∀ w', (Op.equalIn 10000 32 (.agg (otC o1).toArray) (.agg (otC o2).toArray)).run Tryz.prog w' = .ok true w' := fun w' => by rw [equal_ot, decide_eq_true he]
              clear he
              obtain ⟨b1, b2, b3⟩ := o1
              obtain ⟨e1, e2, e3⟩ := o2
              dsimp only [otC] at f8 HX
              repeat (first | go_values | go_skip | go_guarded | go_step | go_upon)
              refine (HX.out _ (bal (Below.refl _ wr) _)).mono ?_
              rintro e w2 ⟨rfl, hb2⟩
              have kb2 : Below wr.heap.size wr w2 := (bal (Below.refl _ wr) _).trans (hb2.mono (by simp))
              have hrun := ((HTC.out.below kb2).alloc (.cells #[.bool b1, .bool b2, .bool b3] 32)).look HNL.out
              rw [← HO2.out] at hrun
              dsimp only [otC] at hrun
              obtain ⟨hc2, hf2⟩ := bcell hb2
              have hz2 := hb2.size
              simp at hz2
              have q2 : wr.heap.size < w2.heap.size := by omega
              dsimp only
              repeat (first | go_values | go_skip | go_guarded | go_step | go_upon)
              exact ⟨⟨j + 1, q, T, by go_num, rfl, by omega, Lib.hid ⟨⟨c, (HTC.out.below kb2).alloc _, hcn⟩, HT1.out.rise⟩, Lib.hid (HM.out.same HY.out HE.out), Lib.hid ((RowKit.Below.heap_alloc _ _ _ (by omega)).trans ((kb2.block _ (by omega)).trans HG1.out)), bal (HW1.out.trans (kb2.mono hz1)) _⟩, by simp [intOf]; omega⟩
            · have HE := Lib.hid (show exT T y.body ≠ T y.name by rw [← HO1.out, ← HO2.out]; exact he)
              obtain ⟨hm2, hlt2⟩ := HM.out.other HT1.out.rise HME.out HE.out
              have HM2 := Lib.hid hm2
              have HR2 := Lib.hid (rise_upd HA.out HT1.out.rise HME.out)
              rw [← HO1.out] at HM2 HR2 hlt2
              have HOO := Lib.hid (show o1 = o1 from rfl)
              obtain ⟨T2, hT2⟩ : ∃ T2, T2 = upd T y.name o1 := ⟨_, rfl⟩
              rw [← hT2] at HM2 HR2 hlt2
              have HPUT := Lib.hid (fun (w3 : World) (ht : Tab w3 (w.heap.size + 1) c T) => ht.put HNL.out (show c < maxLen by unfold maxLen; have := HN.out; omega) o1)
              rw [← hT2] at HPUT
              have f7 := guard_out
              have f8 : ∀ w', (Op.equalIn 10000 32 (.agg (otC o1).toArray) (.agg (otC o2).toArray)).run Tryz.prog w' = .ok false w' := fun w' => by rw [equal_ot, decide_eq_false he]
              clear he hm2 hT2
              obtain ⟨b1, b2, b3⟩ := o1
              obtain ⟨e1, e2, e3⟩ := o2
              dsimp only [otC] at f8 HX HPUT
              repeat (first | go_values | go_skip | go_guarded | go_step | go_upon)
              refine (HX.out _ (bal (Below.refl _ wr) _)).mono ?_
              rintro e w2 ⟨rfl, hb2⟩
              have kb2 : Below wr.heap.size wr w2 := (bal (Below.refl _ wr) _).trans (hb2.mono (by simp))
              have hrun := ((HTC.out.below kb2).alloc (.cells #[.bool b1, .bool b2, .bool b3] 32)).look HNL.out
              rw [← HO2.out] at hrun
              dsimp only [otC] at hrun
              obtain ⟨hc2, hf2⟩ := bcell hb2
              have hz2 := hb2.size
              simp at hz2
              have q2 : wr.heap.size < w2.heap.size := by omega
              obtain ⟨w4, hrun4, ht4, hg4⟩ := HPUT.out _ ((HTC.out.below kb2).alloc (.cells #[.bool b1, .bool b2, .bool b3] 32))
              have HT4 := Lib.hid ht4
              have HG4 := Lib.hid hg4
              clear ht4 hg4
              dsimp only
              repeat (first | go_values | go_skip | go_guarded | go_step | go_upon)
              exact ⟨⟨j + 1, true, T2, by go_num, rfl, by omega, Lib.hid ⟨⟨c + 1, HT4.out, by omega⟩, HR2.out⟩, HM2, Lib.hid ((HG4.out.block _ (by simp; omega) (by simp)).trans ((RowKit.Below.heap_alloc _ _ _ (by omega)).trans ((kb2.block _ (by omega)).trans HG1.out))), (bal (HW1.out.trans (kb2.mono hz1)) _).grown HG4.out (by simp; omega) (fun k hk => by injection hk with hk; omega)⟩, by simp [intOf]; omega⟩
        · have d1 : decide ((j : Int) < n) = false := by simpa using hlt
          obtain rfl : j = n := by omega
          clear hlt
          repeat (first | go_values | go_skip | go_guarded | go_step | go_upon)
          refine ⟨⟨q, T, rfl, HT1, Lib.hid (fun hq => ?_), HG1, HW1.out⟩, ?_⟩
          · have := (HM.out.no hq).2
            rwa [HN.out, List.take_length] at this
          · have e1 : tabOf wr (w.heap.size + 1) = T := by obtain ⟨c, h, _⟩ := HT1.out.tab; exact h.of
            rw [e1, HM0.out]
            cases q with
            | false => obtain rfl := (HM.out.no rfl).1; simp [isT]
            | true => have := HM.out.yes rfl; simp only [isT]; omega
end Go.Proofs.YtjlcoldnhbkcgaaGreatDoor
namespace Go.Proofs.YtjlcoldnhbkcgaaGreatDoor
open Go.RowKit Go.Sort

def KnC (g : List Rr) (v : Value) (n : Tr) : Prop := ∀ (w : World) (P : Nat → Prop) (cs : List Value), RepGr w P g v → RepA w P n cs → (∀ b, P b → b < w.heap.size) → Calls Tryz.prog 25 #[.agg #[v], .agg cs.toArray] w (Ans (.bool ((rfT n).all (known g))) w)
set_option maxRecDepth 100000 in
set_option maxHeartbeats 6400000 in
theorem kn_ref {g : List Rr} {v : Value} {t : List UInt8} {c : BitVec 256} {a : Option Addr} {n cap : Nat} {p : Int} {P : Nat → Prop} (w : World) (hr : RepGr w P g v) (hP : ∀ b, P b → b < w.heap.size) : Calls Tryz.prog 25 #[.agg #[v], .agg (trC 5 t c (.slice a n cap) p).toArray] w (Ans (.bool (known g (t, p))) w) := by
  obtain ⟨ga, gcap, rfl, _⟩ := hr.slice
  have HX := Lib.hid (fun (w' : World) (h : Below w.heap.size w w') => find_any (nm := t) w' (hr.on hP h) (fun b hb => Nat.lt_of_lt_of_le (hP b hb) h.size))
  have hm1 := cell_alloc_lt
  have HB := Lib.hid (show Below w.heap.size w ((w.alloc (.cells #[.slice ga g.length gcap] 24)).alloc (.cells (trC 5 t c (.slice a n cap) p).toArray 40)) from bal (bal (Below.refl _ w) _) _)
  clear hr hP
  obtain ⟨q, hq⟩ : ∃ q, known g (t, p) = q := ⟨_, rfl⟩
  have hd : decide (0 ≤ fdV g t) = q := by
    rw [← hq, known, fdV]
    cases h : fdx g t with
    | none => rfl
    | some i => simp
  obtain ⟨z, hz⟩ : ∃ z, z = fdV g t := ⟨_, rfl⟩
  rw [← hz] at HX hd
  rw [hq]
  clear hq hz
  cases q
  all_goals
    dsimp only [trC] at HB ⊢
    go_enter Tryz.func25, Tryz.ntmps25
    repeat (first | go_values | go_skip | go_guarded | go_step | go_upon)
    refine (HX.out _ HB.out).mono ?_
    rintro e w2 ⟨rfl, hb2⟩
    dsimp only
    repeat (first | go_values | go_skip | go_guarded | go_step | go_upon)
    go_ret
    exact ⟨rfl, (by repeat (first | exact Below.refl _ _ | assumption | refine bal ?_ _ | refine bdr ?_ | refine bdrn ?_ _ | (refine bset ?_ (by first | exact Nat.le_refl _ | (simp; done) | (simp; omega) | omega) _) | refine bstep ?_ (by assumption)))⟩
set_option maxRecDepth 100000 in
set_option maxHeartbeats 6400000 in
theorem kn_row {g : List Rr} {v u : Value} {k : Int} (hk : k ≠ 5) {t : List UInt8} {c : BitVec 256} {l : List Tr} {p : Int} {P : Nat → Prop} (w : World) (hr : RepGr w P g v) (hl : RepL w P l u) (hP : ∀ b, P b → b < w.heap.size) (hs : l.length ≤ 1000000000) (ih : ∀ x ∈ l, KnC g v x) : Calls Tryz.prog 25 #[.agg #[v], .agg (trC k t c u p).toArray] w (Ans (.bool ((rfL l).all (known g))) w) := by
  obtain ⟨n, hn⟩ : ∃ n, n = l.length := ⟨_, rfl⟩
  obtain ⟨ga, gcap, rfl, _⟩ := hr.slice
  obtain ⟨a, cap, rfl, hcap, _⟩ := hl.slice
  have HR := Lib.hid hr
  have HL := Lib.hid hl
  have HP := Lib.hid hP
  have HI := Lib.hid ih
  rw [← hn] at hcap hs HL ⊢
  have HN := Lib.hid hn
  have hm1 := cell_alloc_lt
  have d5 : (k == 5) = false := by simpa using hk
  have HG := Lib.hid (show ((w.alloc (.cells #[.slice ga g.length gcap] 24)).alloc (.cells (trC k t c (.slice a n cap) p).toArray 40)).heap[w.heap.size]? = some (.cells #[.slice ga g.length gcap] 24 (0, 0)) from by
    rw [RowKit.Below.heap_alloc _ _ _ (by simp), heap_alloc_new])
  clear hr hl hP ih hn hk
  dsimp only [trC] at HG ⊢
  go_enter Tryz.func25, Tryz.ntmps25
  repeat (first | go_values | go_skip | go_guarded | go_step | go_upon)
  go_loopw [18] (fun tt wr => ∃ j : Nat, tt = .int .i64 (j : Int) ∧ j ≤ n ∧ Hid ((rfL (l.take j)).all (known g) = true) ∧ Hid (wr.heap[w.heap.size]? = some (.cells #[.slice ga g.length gcap] 24 (0, 0))) ∧ Below w.heap.size w wr) (fun tt _ => n - (intOf tt).toNat)
  case atStart => exact ⟨0, rfl, Nat.zero_le _, Lib.hid rfl, HG, bal (bal (Below.refl _ w) _) _⟩
  case round =>
    obtain ⟨j, rfl, hj, HA, HG1, hb⟩ := hrel
    have HW := Lib.hid hb
    have hz := hb.size
    have cg := (cells_at HG1.out).1 0
    have qg := (cells_at HG1.out).2.2
    clear hb
    by_cases hlt : j < n
    · have hlt2 : j < l.length := by rw [← HN.out]; exact hlt
      obtain ⟨y, hy⟩ : ∃ y, l[j]? = some y := ⟨l[j], List.getElem?_eq_getElem hlt2⟩
      have hmem := List.mem_of_getElem? hy
      rcases HL.out.parts with ⟨e, _⟩ | ⟨e, _⟩ | ⟨gg, o, cap', e, hgg, _, hcp, hmx, hr⟩
      · rw [e] at hlt2; simp at hlt2
      · rw [e] at hlt2; simp at hlt2
      · obtain rfl : a = some ⟨gg, o, none⟩ := by injection e
        have hr1 := hr.mono (w' := wr) (P' := P) (fun b' hb' => HW.out.block b' (HP.out b' hb')) (fun _ h => h) hgg
        obtain ⟨k1, t1, x1, sa, sn, sc, p1, l1, eb, q0, _, a0, a1, a2, a3, a4, a5, a6, a7⟩ := hr1.get hy
        have d1 : decide ((j : Int) < n) = true := by simpa using hlt
        have k5 : IntKind.i64.wrap ((j : Int) + 1) = (j : Int) + 1 := by rw [IntKind.wrap_i64]; omega
        have hIH := HI.out y hmem
        have q1 : ∀ w', Below wr.heap.size wr w' → RepA w' P y (trC k1 t1 x1 (.slice sa sn sc) p1) := fun w' h => q0.mono (fun b' hb' => h.block b' (Nat.lt_of_lt_of_le (HP.out b' hb') hz)) (fun _ h => h)
        have HX := Lib.hid (fun (w' : World) (h : Below wr.heap.size wr w') => hIH w' P _ (HR.out.on HP.out (HW.out.trans (h.mono hz))) (q1 w' h) (fun b' hb' => by have h1 := HP.out b' hb'; have h2 := h.size; omega))
        have qgg := Nat.lt_of_lt_of_le (HP.out gg hgg) hz
        have HA2 := Lib.hid (show (rfL (l.take (j + 1))).all (known g) = (rfT y).all (known g) by rw [rfL_take hy, List.all_append, HA.out, Bool.true_and])
        have HA3 := Lib.hid (show (rfT y).all (known g) = false → (rfL l).all (known g) = false from fun h => by rw [rfL_split hy, List.all_append, List.all_append, h]; simp)
        obtain ⟨q, hq⟩ : ∃ q, (rfT y).all (known g) = q := ⟨_, rfl⟩
        rw [hq] at HX HA2 HA3
        clear eb e hr hr1 q0 q1 hIH hy hmem hq
        dsimp only [trC] at HX
        cases q with
        | false =>
          repeat (first | go_values | go_skip | go_guarded | go_step | go_upon)
          refine (HX.out _ (bal (Below.refl _ wr) _)).mono ?_
          rintro e w2 ⟨rfl, hb2⟩
          dsimp only
          repeat (first | go_values | go_skip | go_guarded | go_step | go_upon)
          go_ret
          exact ⟨by rw [HA3.out rfl]; rfl, HW.out.trans (((bal (Below.refl _ wr) _).trans (hb2.mono (by simp))).mono hz)⟩
        | true =>
          repeat (first | go_values | go_skip | go_guarded | go_step | go_upon)
          refine (HX.out _ (bal (Below.refl _ wr) _)).mono ?_
          rintro e w2 ⟨rfl, hb2⟩
          have kb2 : Below wr.heap.size wr w2 := (bal (Below.refl _ wr) _).trans (hb2.mono (by simp))
          dsimp only
          repeat (first | go_values | go_skip | go_guarded | go_step | go_upon)
          exact ⟨⟨j + 1, by go_num, by omega, HA2, Lib.hid ((kb2.block _ qg).trans HG1.out), HW.out.trans (kb2.mono hz)⟩, by simp [intOf]; omega⟩
    · have d1 : decide ((j : Int) < n) = false := by simpa using hlt
      obtain rfl : j = n := by omega
      clear hlt
      repeat (first | go_values | go_skip | go_guarded | go_step | go_upon)
      go_ret
      exact ⟨by have := HA.out; rw [HN.out, List.take_length] at this; rw [this]; rfl, HW.out⟩
theorem kn_any {g : List Rr} {v : Value} {n : Tr} (h : OkT n) : n.bulk ≤ 1000000000 → KnC g v n := by
  have leaf : ∀ {k : Int} {t : List UInt8} {c : BitVec 256} {p : Int}, k ≠ 5 → KnC g v (.mk k t c [] p) := by
    intro k t c p hk w P cs hg hr hP
    cases hr with
    | mk hl =>
      have := kn_row hk (t := t) (c := c) (p := p) w hg hl hP (Nat.zero_le _) (fun x hx => by cases hx)
      rwa [rfT, if_neg hk, List.nil_append]
  induction h with
  | empty => exact fun _ => leaf (by decide)
  | lit _ => exact fun _ => leaf (by decide)
  | set => exact fun _ => leaf (by decide)
  | any => exact fun _ => leaf (by decide)
  | @ref t p ht =>
    intro _ w P cs hg hr hP
    cases hr with
    | mk hl =>
      obtain ⟨a, cap, rfl, _⟩ := hl.slice
      have := kn_ref (t := t) (c := 0) (p := p) (a := a) (n := 0) (cap := cap) w hg hP
      rw [rfT, if_pos rfl, rfL, List.append_nil, List.all_cons, List.all_nil, Bool.and_true]
      exact this
  | @seq l p hl1 ho ih =>
    intro hb w P cs hg hr hP
    cases hr with
    | mk hl =>
      rw [Tr.bulk] at hb
      have := kn_row (k := 6) (by decide) (t := []) (c := 0) (p := p) w hg hl hP (by have := bulks_len l; omega) (fun x hx => ih x hx (by have := bulk_mem hx; omega))
      rwa [rfT, if_neg (by decide), List.nil_append]
  | @alt l p hl1 ho ih =>
    intro hb w P cs hg hr hP
    cases hr with
    | mk hl =>
      rw [Tr.bulk] at hb
      have := kn_row (k := 7) (by decide) (t := []) (c := 0) (p := p) w hg hl hP (by have := bulks_len l; omega) (fun x hx => ih x hx (by have := bulk_mem hx; omega))
      rwa [rfT, if_neg (by decide), List.nil_append]
  | @post k p n hk ho ih =>
    intro hb w P cs hg hr hP
    cases hr with
    | mk hl =>
      rw [Tr.bulk] at hb
      have hk5 : k ≠ 5 := by omega
      have := kn_row hk5 (t := []) (c := 0) (p := p) w hg hl hP (by simp) (fun x hx => by rw [List.mem_singleton.1 hx]; exact ih (by simp only [Tr.bulks] at hb; omega))
      rwa [rfT, if_neg hk5, List.nil_append]
  | @pre k p n hk ho ih =>
    intro hb w P cs hg hr hP
    cases hr with
    | mk hl =>
      rw [Tr.bulk] at hb
      have hk5 : k ≠ 5 := by omega
      have := kn_row hk5 (t := []) (c := 0) (p := p) w hg hl hP (by simp) (fun x hx => by rw [List.mem_singleton.1 hx]; exact ih (by simp only [Tr.bulks] at hb; omega))
      rwa [rfT, if_neg hk5, List.nil_append]
end Go.Proofs.YtjlcoldnhbkcgaaGreatDoor
namespace Go.Proofs.YtjlcoldnhbkcgaaGreatDoor
open Go.RowKit Go.Sort

/-- An expression that may be asked for. -/
def ExOk (g : List Rr) (n : Tr) : Prop := OkT n ∧ Fit n ∧ (txT n).length + 6 ≤ 8192 ∧ (rfT n).all (known g) = true
theorem txT_some {n : Tr} {r : Nat ⊕ List UInt8} (h : PrRes [⟨[97], n, 0⟩] r) (h1 : OkT n) (h2 : Fit n) (h3 : (txT n).length + 6 ≤ 8192) : exprOf r = txT n := expr_is h1 h2 h3 h
/-- The call's own blocks. -/
structure XS (v : Value) (cs : List Value) (w w' : World) : Prop where
  gr : w'.heap[w.heap.size]? = some (.cells #[v] 24 (0, 0))
  nd : w'.heap[w.heap.size + 1]? = some (.cells cs.toArray 40 (0, 0))
  ou : Obk (w.heap.size + 1 + 1) ot0 w'
  be : Below w.heap.size w w'
theorem xs_start (v : Value) (cs : List Value) (w : World) (_ : v.oneCell' = true) : XS v cs w (((w.alloc (.cells #[v] 24)).alloc (.cells cs.toArray 40)).alloc (.cells (otC ot0).toArray 32)) := by
  refine ⟨?_, ?_, ?_, bal (bal (bal (Below.refl _ w) _) _) _⟩
  · rw [RowKit.Below.heap_alloc _ _ _ (by simp; omega), RowKit.Below.heap_alloc _ _ _ (by simp), heap_alloc_new]
  · rw [RowKit.Below.heap_alloc _ _ _ (by simp)]
    have h := heap_alloc_new (w.alloc (.cells #[v] 24)) (.cells cs.toArray 40)
    simpa using h
  · have h := heap_alloc_new ((w.alloc (.cells #[v] 24)).alloc (.cells cs.toArray 40)) (.cells (otC ot0).toArray 32)
    unfold Obk
    simpa using h
theorem XS.lt {v : Value} {cs : List Value} {w w' : World} (h : XS v cs w w') : w.heap.size + 1 + 1 < w'.heap.size := h.ou.cells.2.2.2.2
theorem XS.below {v : Value} {cs : List Value} {w w1 w2 : World} (h : XS v cs w w1) (hb : Below w1.heap.size w1 w2) : XS v cs w w2 :=
  ⟨(hb.block _ (by have := h.lt; omega)).trans h.gr, (hb.block _ (by have := h.lt; omega)).trans h.nd, h.ou.below hb, h.be.trans (hb.mono h.be.size)⟩
theorem XS.done {v : Value} {cs : List Value} {w w' : World} (h : XS v cs w w') (x y z : Value) : Below w.heap.size w (((w'.setCell ⟨w.heap.size + 1 + 1, 0, none⟩ x).setCell ⟨w.heap.size + 1 + 1, 1, none⟩ y).setCell ⟨w.heap.size + 1 + 1, 2, none⟩ z) :=
  ((h.be.setCell (by simp; omega) _).setCell (by simp; omega) _).setCell (by simp; omega) _
set_option maxRecDepth 100000 in
set_option maxHeartbeats 6400000 in
theorem xpr_no {g : List Rr} {v : Value} {n : Tr} {cs : List Value} {P : Nat → Prop} (w : World) (hg : Laid w) (hr : RepGr w P g v) (hn : RepA w P n cs) (hP : ∀ b, P b → b < w.heap.size) (hb : Rr.bulks g ≤ 1000000000) (hc : ¬ CkOk g) : Calls Tryz.prog 13 #[.agg #[v], .agg cs.toArray] w (fun e w' => (∃ v, e = .returned (.tuple #[.agg #[.bool false, .bool false, .bool false], v]) ∧ ErrV v) ∧ Below w.heap.size w w') := by
  obtain ⟨a, cap, rfl, _⟩ := hr.slice
  obtain ⟨k, t, x, u, l, p, _, rfl, hl⟩ := hn.form
  obtain ⟨sa, scap, rfl, _⟩ := hl.slice
  have HX := Lib.hid (fun (w' : World) (h : Below w.heap.size w w') => check_no w' (hg.below h hg.pos) (hr.on hP h) (fun b hb => Nat.lt_of_lt_of_le (hP b hb) h.size) hb hc)
  have hm1 := cell_alloc_lt
  have HS := Lib.hid (xs_start (.slice a g.length cap) (trC k t x (.slice sa l.length scap) p) w rfl)
  clear hg hr hP hb hc hn hl
  dsimp only [trC] at HS ⊢
  go_enter Tryz.func13, Tryz.ntmps13
  repeat (first | go_values | go_skip | go_guarded | go_step | go_upon)
  refine (HX.out _ HS.out.be).mono ?_
  rintro e w2 ⟨⟨v, rfl, hv⟩, hb2⟩
  have HS2 := Lib.hid (HS.out.below hb2)
  obtain ⟨o1, o2, o3, o4, o5⟩ := HS2.out.ou.cells
  obtain ⟨s1, s2, s3, _, _⟩ := (HS2.out.ou.set false false false).cells
  rcases hv with ⟨c, rfl⟩ | ⟨p, rfl⟩
  · dsimp only
    repeat (first | go_values | go_skip | go_guarded | go_step | go_upon)
    refine bodyPost_ret (v := .tuple #[.agg #[.bool false, .bool false, .bool false], .iface 66 (.int .i64 c)]) (by simp [results, Tryz.results13, go_sem, s1, s2, s3]; done) rfl ⟨⟨_, rfl, .inl ⟨_, rfl⟩⟩, HS2.out.done _ _ _⟩
  · dsimp only
    repeat (first | go_values | go_skip | go_guarded | go_step | go_upon)
    refine bodyPost_ret (v := .tuple #[.agg #[.bool false, .bool false, .bool false], .iface 79 (.pointer (some ⟨p, 0, none⟩))]) (by simp [results, Tryz.results13, go_sem, s1, s2, s3]; done) rfl ⟨⟨_, rfl, .inr ⟨_, rfl⟩⟩, HS2.out.done _ _ _⟩
set_option maxRecDepth 100000 in
set_option maxHeartbeats 6400000 in
theorem xpr_arg {g : List Rr} {v : Value} {n : Tr} {cs : List Value} {P : Nat → Prop} (w : World) (hg : Laid w) (hr : RepGr w P g v) (hn : RepA w P n cs) (hP : ∀ b, P b → b < w.heap.size) (hb : Rr.bulks g ≤ 1000000000) (hbn : n.bulk ≤ 999999999) (hc : CkOk g) (hx : ¬ ExOk g n) : Calls Tryz.prog 13 #[.agg #[v], .agg cs.toArray] w (fun e w' => (∃ v, e = .returned (.tuple #[.agg #[.bool false, .bool false, .bool false], v]) ∧ ErrV v) ∧ Below w.heap.size w w') := by
  obtain ⟨a, cap, rfl, _⟩ := hr.slice
  have HKN := Lib.hid (fun (h : OkT n) (w' : World) (hw : Below w.heap.size w w') => kn_any h (by omega) w' P cs (hr.on hP hw) (hn.on hP hw) (fun b hb => Nat.lt_of_lt_of_le (hP b hb) hw.size))
  have HX := Lib.hid (fun (w' : World) (h : Below w.heap.size w w') => check_ok w' (hg.below h hg.pos) (hr.on hP h) (fun b hb => Nat.lt_of_lt_of_le (hP b hb) h.size) hb hc)
  have HE := Lib.hid (fun (w' : World) (h : Below w.heap.size w w') => pexpr_any w' (hg.below h hg.pos) (hn.on hP h) (fun b hb => Nat.lt_of_lt_of_le (hP b hb) h.size) hbn)
  obtain ⟨k, t, x, u, l, p, _, rfl, hl⟩ := hn.form
  obtain ⟨sa, scap, rfl, _⟩ := hl.slice
  have hm1 := cell_alloc_lt
  have HS := Lib.hid (xs_start (.slice a g.length cap) (trC k t x (.slice sa l.length scap) p) w rfl)
  have HNO := Lib.hid hx
  clear hg hr hP hb hc hn hl hx
  dsimp only [trC] at HS HE HKN ⊢
  go_enter Tryz.func13, Tryz.ntmps13
  repeat (first | go_values | go_skip | go_guarded | go_step | go_upon)
  refine (HX.out _ HS.out.be).mono ?_
  rintro e w2 ⟨rfl, hb2⟩
  have HS2 := Lib.hid (HS.out.below hb2)
  have n2 := (cells_at HS2.out.nd).1
  have n3 := (cells_at HS2.out.nd).2.2
  have e0 := n2 0
  have e1 := n2 1
  have e2 := n2 2
  have e3 := n2 3
  have e4 := n2 4
  have e5 := n2 5
  have e6 := n2 6
  have e7 := n2 7
  simp at e0 e1 e2 e3 e4 e5 e6 e7
  have g0 := (cells_at HS2.out.gr).1 0
  have g2 := (cells_at HS2.out.gr).2.2
  clear n2
  dsimp only
  repeat (first | go_values | go_skip | go_guarded | go_step | go_upon)
  refine (HE.out _ HS2.out.be).mono ?_
  rintro e w3 ⟨⟨r, hr, rfl⟩, hb3⟩
  have HS3 := Lib.hid (HS2.out.below hb3)
  obtain ⟨o1, o2, o3, o4, o5⟩ := HS3.out.ou.cells
  obtain ⟨s1, s2, s3, _, _⟩ := (HS3.out.ou.set false false false).cells
  obtain ⟨hc3, hf3⟩ := bcell hb3
  have hE := expr_nil hr
  dsimp only
  cases hx : exprOf r with
  | nil =>
    clear hE hx hr
    repeat (first | go_values | go_skip | go_guarded | go_step | go_upon)
    refine bodyPost_ret (v := .tuple #[.agg #[.bool false, .bool false, .bool false], .iface 66 (.int .i64 1)]) (by simp [results, Tryz.results13, go_sem, s1, s2, s3]; done) rfl ⟨⟨_, rfl, .inl ⟨_, rfl⟩⟩, HS3.out.done _ _ _⟩
  | cons b0 l0 =>
    rw [hx] at hE
    obtain ⟨e9, ho, hf, h8⟩ := hE.resolve_left (by simp)
    have hkf : (rfT n).all (known g) = false := by
      cases hq : (rfT n).all (known g) with
      | false => rfl
      | true => exact absurd ⟨ho, hf, h8, hq⟩ HNO.out
    have HK := Lib.hid (HKN.out ho)
    rw [hkf] at HK
    clear hE hx hr ho hf h8 hkf e9
    repeat (first | go_values | go_skip | go_guarded | go_step | go_upon)
    refine (HK.out _ HS3.out.be).mono ?_
    rintro e w4 ⟨rfl, hb4⟩
    have HS4 := Lib.hid (HS3.out.below hb4)
    obtain ⟨o1, o2, o3, o4, o5⟩ := HS4.out.ou.cells
    obtain ⟨s1, s2, s3, _, _⟩ := (HS4.out.ou.set false false false).cells
    dsimp only
    repeat (first | go_values | go_skip | go_guarded | go_step | go_upon)
    refine bodyPost_ret (v := .tuple #[.agg #[.bool false, .bool false, .bool false], .iface 66 (.int .i64 1)]) (by simp [results, Tryz.results13, go_sem, s1, s2, s3]; done) rfl ⟨⟨_, rfl, .inl ⟨_, rfl⟩⟩, HS4.out.done _ _ _⟩
end Go.Proofs.YtjlcoldnhbkcgaaGreatDoor
