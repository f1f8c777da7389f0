/- Two grammars compared: where they are the same, with or without their places. | Reading the same tokens, elsewhere and with other tokens behind them: plain. | Reading the same tokens elsewhere: a part, one; all of them. -/
import Derived.Test.YtlohpplpnddfaaaDoorG15
namespace Go.Proofs.YtlohpplpnddfaaaDoor
open Go.RowKit Go.Sort

/-- The same rules; with their places, if asked for. -/
inductive SameG (at_ : Bool) : List Ru → List Ru → Prop
  | nil : SameG at_ [] []
  | cons {n : List UInt8} {b b' : Nd} {p p' : Nat} {l l' : List Ru} : SameN at_ b b' → (at_ = true → p = p') → SameG at_ l l' → SameG at_ (⟨n, b, p⟩ :: l) (⟨n, b', p'⟩ :: l')
theorem SameG.refl (b : Bool) (l : List Ru) : SameG b l l := by
  induction l with
  | nil => exact .nil
  | cons x l ih => exact .cons (SameN.refl b _) (fun _ => rfl) ih
theorem SameG.length {b : Bool} {l l' : List Ru} (h : SameG b l l') : l.length = l'.length := by
  induction h with
  | nil => rfl
  | cons _ _ _ ih => simp [ih]
theorem SameG.get {b : Bool} {l l' : List Ru} (h : SameG b l l') {k : Nat} {x x' : Ru} (h1 : l[k]? = some x) (h2 : l'[k]? = some x') : x.name = x'.name ∧ SameN b x.body x'.body ∧ (b = true → x.pos = x'.pos) := by
  induction h generalizing k with
  | nil => simp at h1
  | cons g1 g2 g3 ih =>
    cases k with
    | zero => simp at h1 h2; rw [← h1, ← h2]; exact ⟨rfl, g1, g2⟩
    | succ k => exact ih (by simpa using h1) (by simpa using h2)
theorem SameG.append {b : Bool} {l l' m m' : List Ru} (h : SameG b l l') (h2 : SameG b m m') : SameG b (l ++ m) (l' ++ m') := by
  induction h with
  | nil => exact h2
  | cons g1 g2 g3 ih => exact .cons g1 g2 ih
/-- The cells of a rule in a row. -/
theorem RuReps.get {w : World} {P : Nat → Prop} {l : List Ru} {cs : List Value} (h : RuReps w P l cs) {k : Nat} {x : Ru} (hk : l[k]? = some x) : ∃ c, Rep w P x.body c ∧ ∀ j, j < 10 → cs[k * 10 + j]? = (Value.string (mkS x.name) :: (c ++ [.int .i64 (x.pos : Int)]))[j]? := by
  induction h generalizing k with
  | nil => simp at hk
  | cons h1 h2 ih =>
    cases k with
    | zero =>
      simp at hk
      subst hk
      refine ⟨_, h1, fun j hj => ?_⟩
      rw [List.getElem?_append_left (by simp [h1.length]; omega)]
      simp
    | succ k =>
      obtain ⟨c, g1, g2⟩ := ih (by simpa using hk)
      refine ⟨c, g1, fun j hj => ?_⟩
      rw [List.getElem?_append_right (by simp [h1.length]; omega), ← g2 j hj]
      congr 1
      simp [h1.length]
      omega
theorem rule_cells {w : World} {P : Nat → Prop} {l : List Ru} {g : Nat} {cur : Array Value} {cs : List Value} {n : Nat} (hn : l.length = n) (hcur : w.heap[g]? = some (.cells cur 69 (0, 0))) (ht : cur.toList.take (n * 10) = cs) (h : RuReps w P l cs) {k : Nat} {x : Ru} (hk : l[k]? = some x) :
    ∃ a t c sa sn sc, Rep w P x.body (ndC a t c (.slice sa sn sc) x.body.pos) ∧ w.cell? ⟨g, k * 10, none⟩ = some (.string (mkS x.name)) ∧ w.cell? ⟨g, k * 10 + 1, none⟩ = some (.int .i64 (a : Int)) ∧ w.cell? ⟨g, k * 10 + 1 + 1, none⟩ = some (.string (mkS t)) ∧ w.cell? ⟨g, k * 10 + 1 + 2, none⟩ = some (.int .u64 (wd c 0)) ∧ w.cell? ⟨g, k * 10 + 1 + 3, none⟩ = some (.int .u64 (wd c 1)) ∧ w.cell? ⟨g, k * 10 + 1 + 4, none⟩ = some (.int .u64 (wd c 2)) ∧ w.cell? ⟨g, k * 10 + 1 + 5, none⟩ = some (.int .u64 (wd c 3)) ∧ w.cell? ⟨g, k * 10 + 1 + 6, none⟩ = some (.slice sa sn sc) ∧ w.cell? ⟨g, k * 10 + 1 + 7, none⟩ = some (.int .i64 (x.body.pos : Int)) ∧ w.cell? ⟨g, k * 10 + 9, none⟩ = some (.int .i64 (x.pos : Int)) := by
  subst ht
  obtain ⟨c, h1, h2⟩ := h.get hk
  obtain ⟨a, t, y, v, l', e1, e2, h3⟩ := h1.form
  obtain ⟨sa, sn, sc, rfl⟩ := h3.slice
  subst e2
  have hlt : k < n := by rw [← hn]; exact (List.getElem?_eq_some_iff.1 hk).1
  have key : ∀ j, j < 10 → w.cell? ⟨g, k * 10 + j, none⟩ = (Value.string (mkS x.name) :: (ndC a t y (.slice sa sn sc) x.body.pos ++ [.int .i64 (x.pos : Int)]))[j]? := fun j hj => by
    rw [(cells_at hcur).1, ← h2 j hj, List.getElem?_take, if_pos (by omega), Array.getElem?_toList]
  exact ⟨a, t, y, sa, sn, sc, h1, key 0 (by decide), key 1 (by decide), key 2 (by decide), key 3 (by decide), key 4 (by decide), key 5 (by decide), key 6 (by decide), key 7 (by decide), key 8 (by decide), key 9 (by decide)⟩
theorem below_drew2 {w w1 : World} (h : Below w.drew.heap.size w.drew w1) : Below w.heap.size w w1.drew := ((drew_below w).trans h).trans ((drew_below w1).mono (by have := h.size; simpa using this))
set_option maxRecDepth 100000 in
set_option maxHeartbeats 6400000 in
theorem same_nil (at_ : Bool) (w : World) : Calls Tryd.prog 47 #[.agg #[.slice none 0 0], .agg #[.slice none 0 0], .bool at_] w (Ans (.bool true) w) := by
  have hm1 := cell_alloc_lt
  go_enter Tryd.func47, Tryd.ntmps47
  repeat (first | go_values | go_skip | go_guarded | go_step | go_upon)
  refine wp_loop_rounds 1 ?_
  rw [rounds_succ]
  repeat (first | go_values | go_skip | go_guarded | go_step | go_upon)
  go_ret
  exact ⟨rfl, (by repeat (first | exact Below.refl _ _ | assumption | refine bal ?_ _ | refine bdr ?_ | refine bdrn ?_ _ | (refine bset ?_ (by first | exact Nat.le_refl _ | (simp; done) | (simp; omega) | omega) _) | refine bstep ?_ (by assumption)))⟩
set_option maxRecDepth 100000 in
set_option maxHeartbeats 6400000 in
theorem same_rules (at_ : Bool) {n g g' cap cap' : Nat} {l l' : List Ru} {cur cur' : Array Value} {cs cs' : List Value} {P P' : Nat → Prop} (w : World) (hl : SameG at_ l l') (hn : l.length = n) (_ : n ≤ cap) (_ : n ≤ cap') (hmax : n ≤ maxLen) (h1 : w.heap[g]? = some (.cells cur 69 (0, 0))) (h2 : w.heap[g']? = some (.cells cur' 69 (0, 0))) (e1 : cur.toList.take (n * 10) = cs) (e2 : cur'.toList.take (n * 10) = cs') (r1 : RuReps w P l cs) (r2 : RuReps w P' l' cs') (hP : ∀ b, P b → b < w.heap.size) (hP' : ∀ b, P' b → b < w.heap.size) :
    Calls Tryd.prog 47 #[.agg #[.slice (some ⟨g, 0, none⟩) n cap], .agg #[.slice (some ⟨g', 0, none⟩) n cap'], .bool at_] w (Ans (.bool true) w) := by
  have hm1 := cell_alloc_lt
  have HL := Lib.hid hl
  have HN := Lib.hid hn
  have hn' : l'.length = n := by rw [← hl.length]; exact hn
  have HN' := Lib.hid hn'
  have R1 := Lib.hid r1
  have R2 := Lib.hid r2
  have H1 := Lib.hid h1
  have H2 := Lib.hid h2
  have E1 := Lib.hid e1
  have E2 := Lib.hid e2
  have HP := Lib.hid hP
  have HP' := Lib.hid hP'
  unfold maxLen at hmax
  clear hl hn hn' r1 r2 h1 h2 hP hP' e1 e2
  go_enter Tryd.func47, Tryd.ntmps47
  repeat (first | go_values | go_skip | go_guarded | go_step | go_upon)
  go_loopw [7] (fun tt wr => ∃ j : Nat, tt = .int .i64 (j : Int) ∧ j ≤ n ∧ Below ((w.alloc (.cells #[.slice (some ⟨g, 0, none⟩) n cap] 61)).alloc (.cells #[.slice (some ⟨g', 0, none⟩) n cap'] 61)).heap.size ((w.alloc (.cells #[.slice (some ⟨g, 0, none⟩) n cap] 61)).alloc (.cells #[.slice (some ⟨g', 0, none⟩) n cap'] 61)) wr) (fun tt _ => n - (intOf tt).toNat)
  case atStart => exact ⟨0, rfl, Nat.zero_le _, Below.refl _ _⟩
  case round =>
    obtain ⟨j, rfl, hj, hbr⟩ := hrel
    have HB := Lib.hid hbr
    have hA := (hbr.block w.heap.size (by simp; omega)).trans ((RowKit.Below.heap_alloc _ _ _ (by simp)).trans (heap_alloc_new w (.cells #[.slice (some ⟨g, 0, none⟩) n cap] 61)))
    have hB := (hbr.block (w.heap.size + 1) (by simp)).trans (alloc2_new w (.cells #[.slice (some ⟨g, 0, none⟩) n cap] 61) (.cells #[.slice (some ⟨g', 0, none⟩) n cap'] 61))
    have s1 : wr.cell? ⟨w.heap.size, 0, none⟩ = some (.slice (some ⟨g, 0, none⟩) n cap) := (cells_at hA).1 0
    have s2 : wr.cell? ⟨w.heap.size + 1, 0, none⟩ = some (.slice (some ⟨g', 0, none⟩) n cap') := (cells_at hB).1 0
    have q1 := (cells_at hA).2.2
    have q2 := (cells_at hB).2.2
    have hw : Below w.heap.size w wr := (bal (bal (Below.refl _ w) _) _).trans (hbr.mono (by simp; omega))
    have HW := Lib.hid hw
    clear hA hB hbr hw
    by_cases hlt : j < n
    · obtain ⟨y, hy⟩ : ∃ y, l[j]? = some y := ⟨l[j]'(by rw [HN.out]; exact hlt), List.getElem?_eq_getElem (by rw [HN.out]; exact hlt)⟩
      obtain ⟨y', hy'⟩ : ∃ y', l'[j]? = some y' := ⟨l'[j]'(by rw [HN'.out]; exact hlt), List.getElem?_eq_getElem (by rw [HN'.out]; exact hlt)⟩
      obtain ⟨hnm, hsb, hpp⟩ := HL.out.get hy hy'
      obtain ⟨k1, t1, x1, sa, sn, sc, q0, a9, a0, a1, a2, a3, a4, a5, a6, a7, a8⟩ := rule_cells HN.out ((HW.out.block g (Array.getElem?_eq_some_iff.1 H1.out).1).trans H1.out) E1.out (R1.out.mono (fun b hb => HW.out.block b (HP.out b hb)) (fun _ h => h)) hy
      obtain ⟨k2, t2, x2, sa2, sn2, sc2, q0', b9, b0, b1, b2, b3, b4, b5, b6, b7, b8⟩ := rule_cells HN'.out ((HW.out.block g' (Array.getElem?_eq_some_iff.1 H2.out).1).trans H2.out) E2.out (R2.out.mono (fun b hb => HW.out.block b (HP'.out b hb)) (fun _ h => h)) hy'
      have hz := HW.out.size
      have qg : g < wr.heap.size := Nat.lt_of_lt_of_le (Array.getElem?_eq_some_iff.1 H1.out).1 hz
      have qg' : g' < wr.heap.size := Nat.lt_of_lt_of_le (Array.getElem?_eq_some_iff.1 H2.out).1 hz
      have HC := Lib.hid (fun (w' : World) (e : w'.heap = wr.heap) => same_any at_ y.body y'.body w' P P' _ _ hsb (q0.mono (w' := w') (fun b _ => by rw [e]) (fun _ h => h)) (q0'.mono (w' := w') (fun b _ => by rw [e]) (fun _ h => h)) (fun b hb => by rw [e]; exact Nat.lt_of_lt_of_le (HP.out b hb) hz) (fun b hb => by rw [e]; exact Nat.lt_of_lt_of_le (HP'.out b hb) hz))
      rw [← hnm] at b9
      clear hy hy' q0 q0' hsb hnm
      have d1 : decide ((j : Int) < n) = true := by simpa using hlt
      repeat (first | go_values | go_skip | go_guarded | go_step | go_upon)
      go_still_tail 13, (by kernel_rfl)
      repeat (first | go_values | go_skip | go_guarded | go_step | go_upon)
      refine (HC.out wr.drew rfl).mono ?_
      rintro e w1 ⟨rfl, hb1⟩
      obtain ⟨hc1, hf1⟩ := bcell hb1
      simp only [World.size_drew] at hc1
      have hz1 := hb1.size
      simp only [World.size_drew] at hz1
      dsimp only
      repeat (first | go_values | go_skip | go_guarded | go_step | go_upon)
      have s1' : w1.cell? ⟨w.heap.size, 0, none⟩ = some (.slice (some ⟨g, 0, none⟩) n cap) := (hc1 _ _ q1).trans s1
      have s2' : w1.cell? ⟨w.heap.size + 1, 0, none⟩ = some (.slice (some ⟨g', 0, none⟩) n cap') := (hc1 _ _ q2).trans s2
      have a8' : w1.cell? ⟨g, j * 10 + 9, none⟩ = some (.int .i64 (y.pos : Int)) := (hc1 _ _ qg).trans a8
      have a9' : w1.cell? ⟨g, j * 10, none⟩ = some (.string (mkS y.name)) := (hc1 _ _ qg).trans a9
      have b8' : w1.cell? ⟨g', j * 10 + 9, none⟩ = some (.int .i64 (y'.pos : Int)) := (hc1 _ _ qg').trans b8
      have b9' : w1.cell? ⟨g', j * 10, none⟩ = some (.string (mkS y.name)) := (hc1 _ _ qg').trans b9
      clear a0 a1 a2 a3 a4 a5 a6 a7 b0 b1 b2 b3 b4 b5 b6 b7 hm1 hc1 hf1 s1 s2 a8 a9 b8 b9
      cases at_ with
      | false =>
        clear hpp
        with_reducible refine wp_region_still_lit (by kernel_rfl) (by kernel_rfl) ?_
        repeat
          with_reducible refine wpStill_step (fun K hK => ?_)
          go_simp
          with_reducible refine hK _ ?_
          clear hK K
        with_reducible refine wpStill_nil ?_
        simp only [Exit.then]
        repeat (first | go_values | go_skip | go_guarded | go_step | go_upon)
        exact ⟨⟨j + 1, by go_num, by omega, HB.out.trans (below_drew2 hb1 |>.mono HB.out.size)⟩, by simp [intOf]; omega⟩
      | true =>
        rw [← hpp rfl] at b8'
        clear hpp
        with_reducible refine wp_region_still_lit (by kernel_rfl) (by kernel_rfl) ?_
        repeat
          with_reducible refine wpStill_step (fun K hK => ?_)
          go_simp
          with_reducible refine hK _ ?_
          clear hK K
        with_reducible refine wpStill_nil ?_
        simp only [Exit.then]
        repeat (first | go_values | go_skip | go_guarded | go_step | go_upon)
        exact ⟨⟨j + 1, by go_num, by omega, HB.out.trans (below_drew2 hb1 |>.mono HB.out.size)⟩, by simp [intOf]; omega⟩
    · have d1 : decide (j < n) = false := by simpa using hlt
      clear hlt
      repeat (first | go_values | go_skip | go_guarded | go_step | go_upon)
      go_ret
      exact ⟨rfl, (bal (bal (Below.refl _ w) _) _).trans (HB.out.mono (by simp; omega))⟩
end Go.Proofs.YtlohpplpnddfaaaDoor
namespace Go.Proofs.YtlohpplpnddfaaaDoor
open Go.RowKit Go.Sort

/-- A token without its place. -/
def bareT (t : Tok) : Nat × List UInt8 × BitVec 256 := (t.kind, t.text, t.cls)
theorem bare_cases {T T' : List Tok} (h : T.map bareT = T'.map bareT) : (T = [] ∧ T' = []) ∨ ∃ t t' T1 T1', T = t :: T1 ∧ T' = t' :: T1' ∧ t.kind = t'.kind ∧ t.text = t'.text ∧ t.cls = t'.cls ∧ T1.map bareT = T1'.map bareT := by
  cases T with
  | nil => cases T' with
    | nil => exact .inl ⟨rfl, rfl⟩
    | cons _ _ => simp at h
  | cons t T1 => cases T' with
    | nil => simp at h
    | cons t' T1' =>
      simp only [List.map_cons, List.cons.injEq, bareT, Prod.mk.injEq] at h
      exact .inr ⟨t, t', T1, T1', rfl, rfl, h.1.1, h.1.2.1, h.1.2.2, h.2⟩
/-- Tokens at which a choice stops. -/
structure StopT (S : List Tok) : Prop where
  sl : sgnOf S ≠ [47]
  pre : preK (sgnOf S) = 0
  suf : sufK (sgnOf S) = 0
  arrow : kindT S ≠ 2
  one : ∀ f d, pOne (f + 1) d S = some (.ok none S)
theorem end_stop {e : Tok} (he : e.kind = 6) : StopT [e] := by
  have hs : sgnOf [e] = [] := by rw [sgnOf, if_neg (by omega)]
  refine ⟨by rw [hs]; decide, by rw [hs]; rfl, by rw [hs]; rfl, by show e.kind ≠ 2; omega, fun f d => ?_⟩
  rw [pOne, if_neg (by omega), if_neg (by omega), if_neg (by omega), if_neg (by omega), if_neg (by omega)]
theorem sgn_bare {T T' S S' : List Tok} (h : T.map bareT = T'.map bareT) : (T = [] ∧ T' = []) ∨ (T ≠ [] ∧ sgnOf (T ++ S) = sgnOf (T' ++ S')) := by
  rcases bare_cases h with h | ⟨t, t', T1, T1', rfl, rfl, h1, h2, _, _⟩
  · exact .inl h
  · exact .inr ⟨by simp, by simp only [List.cons_append, sgnOf, h1, h2]⟩
/-- The same of what may come. -/
def SameO : Option Nd → Option Nd → Prop
  | none, none => True
  | some n, some m => SameN false n m
  | _, _ => False
theorem SameN.join {k : Nat} : ∀ {l l' : List Nd}, SameL false l l' → 0 < l.length → SameN false (joinN k l) (joinN k l')
  | [], _, _, h0 => by simp at h0
  | [_], _, .cons h1 .nil, _ => h1
  | _ :: _ :: _, _, .cons h1 (.cons h2 h3), _ => .mk (fun h => by cases h) (.cons h1 (.cons h2 h3))
/-- No end among them. -/
def NoEnd (T : List Tok) : Prop := ∀ t ∈ T, t.kind ≠ 6
theorem NoEnd.tail {t : Tok} {T : List Tok} (h : NoEnd (t :: T)) : NoEnd T := fun u hu => h u (by simp [hu])
theorem kind_behind {T1 T1' : List Tok} {e : Tok} {S : List Tok} (he : e.kind = 6) (hS : StopT S) (hc : T1.map bareT = T1'.map bareT) : kindT (T1 ++ [e]) = 2 ↔ kindT (T1' ++ S) = 2 := by
  rcases bare_cases hc with ⟨rfl, rfl⟩ | ⟨t, t', U, U', rfl, rfl, h1, _, _, _⟩
  · have := hS.arrow
    simp only [List.nil_append]
    show e.kind = 2 ↔ _
    omega
  · show t.kind = 2 ↔ t'.kind = 2
    omega
/-- Reading tokens up to an end, and the like tokens, as deep or deeper, up to others at which a choice stops. -/
structure Swap (f : Nat) (e : Tok) (S : List Tok) : Prop where
  choice : ∀ {d d' : Nat} {T T' r : List Tok} {n : Nd}, NoEnd T → T.map bareT = T'.map bareT → d ≤ d' → pChoice f d (T ++ [e]) = some (.ok n r) → ∃ T2, r = T2 ++ [e] ∧ NoEnd T2 ∧ ((d ≠ d' ∧ ∃ x, pChoice f d' (T' ++ S) = some (.err 2 x)) ∨ ∃ m T2', pChoice f d' (T' ++ S) = some (.ok m (T2' ++ S)) ∧ T2.map bareT = T2'.map bareT ∧ SameN false n m)
  alts : ∀ {d d' : Nat} {T T' r : List Tok} {n : Nd} {l l' : List Nd}, NoEnd T → T.map bareT = T'.map bareT → d ≤ d' → SameL false l l' → 0 < l.length → pAlts f d (T ++ [e]) l = some (.ok n r) → ∃ T2, r = T2 ++ [e] ∧ NoEnd T2 ∧ ((d ≠ d' ∧ ∃ x, pAlts f d' (T' ++ S) l' = some (.err 2 x)) ∨ ∃ m T2', pAlts f d' (T' ++ S) l' = some (.ok m (T2' ++ S)) ∧ T2.map bareT = T2'.map bareT ∧ SameN false n m)
  parts : ∀ {d d' : Nat} {T T' r : List Tok} {n : Nd} {l l' : List Nd}, NoEnd T → T.map bareT = T'.map bareT → d ≤ d' → SameL false l l' → pParts f d (T ++ [e]) l = some (.ok n r) → ∃ T2, r = T2 ++ [e] ∧ NoEnd T2 ∧ ((d ≠ d' ∧ ∃ x, pParts f d' (T' ++ S) l' = some (.err 2 x)) ∨ ∃ m T2', pParts f d' (T' ++ S) l' = some (.ok m (T2' ++ S)) ∧ T2.map bareT = T2'.map bareT ∧ SameN false n m)
  part : ∀ {d d' : Nat} {T T' r : List Tok} {n : Option Nd}, NoEnd T → T.map bareT = T'.map bareT → d ≤ d' → pPart f d (T ++ [e]) = some (.ok n r) → ∃ T2, r = T2 ++ [e] ∧ NoEnd T2 ∧ ((d ≠ d' ∧ ∃ x, pPart f d' (T' ++ S) = some (.err 2 x)) ∨ ∃ m T2', pPart f d' (T' ++ S) = some (.ok m (T2' ++ S)) ∧ T2.map bareT = T2'.map bareT ∧ SameO n m)
  one : ∀ {d d' : Nat} {T T' r : List Tok} {n : Option Nd}, NoEnd T → T.map bareT = T'.map bareT → d ≤ d' → pOne f d (T ++ [e]) = some (.ok n r) → ∃ T2, r = T2 ++ [e] ∧ NoEnd T2 ∧ ((d ≠ d' ∧ ∃ x, pOne f d' (T' ++ S) = some (.err 2 x)) ∨ ∃ m T2', pOne f d' (T' ++ S) = some (.ok m (T2' ++ S)) ∧ T2.map bareT = T2'.map bareT ∧ SameO n m)
theorem swap_choice {f : Nat} {e : Tok} {S : List Tok} (ih : Swap f e S) {d d' : Nat} {T T' r : List Tok} {n : Nd} (hT : NoEnd T) (hc : T.map bareT = T'.map bareT) (hd : d ≤ d') (h : pChoice (f + 1) d (T ++ [e]) = some (.ok n r)) : ∃ T2, r = T2 ++ [e] ∧ NoEnd T2 ∧ ((d ≠ d' ∧ ∃ x, pChoice (f + 1) d' (T' ++ S) = some (.err 2 x)) ∨ ∃ m T2', pChoice (f + 1) d' (T' ++ S) = some (.ok m (T2' ++ S)) ∧ T2.map bareT = T2'.map bareT ∧ SameN false n m) := by
  rw [pChoice] at h
  rw [pChoice]
  cases e1 : pParts f d (T ++ [e]) [] with
  | none => rw [e1] at h; cases h
  | some x =>
    rw [e1] at h
    cases x with
    | err c x => cases h
    | ok n1 r1 =>
      obtain ⟨T1, rfl, hT1, g⟩ := ih.parts hT hc hd .nil e1
      rcases g with ⟨hne, x, g⟩ | ⟨m, T1', g, hc1, hs⟩
      · obtain ⟨T2, rfl, hT2, _⟩ := ih.alts (d' := d) hT1 (rfl : T1.map bareT = T1.map bareT) (Nat.le_refl _) (SameL.refl false [n1]) (by simp) h
        exact ⟨T2, rfl, hT2, .inl ⟨hne, x, by rw [g]⟩⟩
      · rw [g]
        exact ih.alts hT1 hc1 hd (.cons hs .nil) (by simp) h
theorem swap_alts {f : Nat} {e : Tok} {S : List Tok} (he : e.kind = 6) (hS : StopT S) (ih : Swap f e S) {d d' : Nat} {T T' r : List Tok} {n : Nd} {l l' : List Nd} (hT : NoEnd T) (hc : T.map bareT = T'.map bareT) (hd : d ≤ d') (hl : SameL false l l') (h0 : 0 < l.length) (h : pAlts (f + 1) d (T ++ [e]) l = some (.ok n r)) : ∃ T2, r = T2 ++ [e] ∧ NoEnd T2 ∧ ((d ≠ d' ∧ ∃ x, pAlts (f + 1) d' (T' ++ S) l' = some (.err 2 x)) ∨ ∃ m T2', pAlts (f + 1) d' (T' ++ S) l' = some (.ok m (T2' ++ S)) ∧ T2.map bareT = T2'.map bareT ∧ SameN false n m) := by
  rw [pAlts] at h
  rw [pAlts]
  rcases sgn_bare (S := [e]) (S' := S) hc with ⟨rfl, rfl⟩ | ⟨hne, hs⟩
  · simp only [List.nil_append] at h ⊢
    rw [if_neg (end_stop he).sl] at h
    rw [if_neg hS.sl]
    have e2 := Option.some.inj h
    injection e2 with e3 e4
    subst e3 e4
    exact ⟨[], rfl, hT, .inr ⟨_, [], rfl, rfl, SameN.join hl h0⟩⟩
  · rw [← hs]
    split at h
    · next h47 =>
      rw [if_pos h47]
      obtain ⟨t, t', T1, T1', rfl, rfl, _, _, _, hc1⟩ := (bare_cases hc).resolve_left (fun h => hne h.1)
      simp only [List.cons_append, List.tail_cons] at h ⊢
      cases e1 : pParts f d (T1 ++ [e]) [] with
      | none => rw [e1] at h; cases h
      | some x =>
        rw [e1] at h
        cases x with
        | err c x => cases h
        | ok n1 r1 =>
          obtain ⟨T2, rfl, hT2, g⟩ := ih.parts hT.tail hc1 hd .nil e1
          rcases g with ⟨hdd, x, g⟩ | ⟨m, T2', g, hc2, hs2⟩
          · obtain ⟨T3, rfl, hT3, _⟩ := ih.alts (d' := d) hT2 (rfl : T2.map bareT = T2.map bareT) (Nat.le_refl _) (SameL.refl false (l ++ [n1])) (by simp) h
            exact ⟨T3, rfl, hT3, .inl ⟨hdd, x, by rw [g]⟩⟩
          · rw [g]
            exact ih.alts hT2 hc2 hd (hl.snoc hs2) (by simp) h
    · next h47 =>
      rw [if_neg h47]
      have e2 := Option.some.inj h
      injection e2 with e3 e4
      subst e3 e4
      exact ⟨T, rfl, hT, .inr ⟨_, T', rfl, hc, SameN.join hl h0⟩⟩
theorem swap_parts {f : Nat} {e : Tok} {S : List Tok} (ih : Swap f e S) {d d' : Nat} {T T' r : List Tok} {n : Nd} {l l' : List Nd} (hT : NoEnd T) (hc : T.map bareT = T'.map bareT) (hd : d ≤ d') (hl : SameL false l l') (h : pParts (f + 1) d (T ++ [e]) l = some (.ok n r)) : ∃ T2, r = T2 ++ [e] ∧ NoEnd T2 ∧ ((d ≠ d' ∧ ∃ x, pParts (f + 1) d' (T' ++ S) l' = some (.err 2 x)) ∨ ∃ m T2', pParts (f + 1) d' (T' ++ S) l' = some (.ok m (T2' ++ S)) ∧ T2.map bareT = T2'.map bareT ∧ SameN false n m) := by
  rw [pParts] at h
  rw [pParts]
  cases e1 : pPart f d (T ++ [e]) with
  | none => rw [e1] at h; cases h
  | some x =>
    rw [e1] at h
    cases x with
    | err c x => cases h
    | ok a r1 =>
      obtain ⟨T1, rfl, hT1, g⟩ := ih.part hT hc hd e1
      cases a with
      | none =>
        have e2 := Option.some.inj h
        injection e2 with e3 e4
        subst e3 e4
        rcases g with ⟨hdd, x, g⟩ | ⟨m, T1', g, hc1, hs⟩
        · exact ⟨T1, rfl, hT1, .inl ⟨hdd, x, by rw [g]⟩⟩
        · cases m with
          | some m => exact hs.elim
          | none =>
            refine ⟨T1, rfl, hT1, .inr ⟨_, T1', by rw [g], hc1, ?_⟩⟩
            rw [← hl.length]
            split
            · exact .mk (fun h => by cases h) .nil
            · exact SameN.join hl (by omega)
      | some n1 =>
        rcases g with ⟨hdd, x, g⟩ | ⟨m, T1', g, hc1, hs⟩
        · obtain ⟨T3, rfl, hT3, _⟩ := ih.parts (d' := d) hT1 (rfl : T1.map bareT = T1.map bareT) (Nat.le_refl _) (SameL.refl false (l ++ [n1])) h
          exact ⟨T3, rfl, hT3, .inl ⟨hdd, x, by rw [g]⟩⟩
        · cases m with
          | none => exact hs.elim
          | some m =>
            rw [g]
            exact ih.parts hT1 hc1 hd (hl.snoc hs) h
end Go.Proofs.YtlohpplpnddfaaaDoor
namespace Go.Proofs.YtlohpplpnddfaaaDoor
open Go.RowKit Go.Sort

theorem pre_bare {T T' S : List Tok} {e : Tok} (he : e.kind = 6) (hS : StopT S) (hc : T.map bareT = T'.map bareT) : preK (sgnOf (T ++ [e])) = preK (sgnOf (T' ++ S)) := by
  rcases sgn_bare (S := [e]) (S' := S) hc with ⟨rfl, rfl⟩ | ⟨_, hs⟩
  · simp only [List.nil_append]; rw [(end_stop he).pre, hS.pre]
  · rw [hs]
theorem suf_bare {T T' S : List Tok} {e : Tok} (he : e.kind = 6) (hS : StopT S) (hc : T.map bareT = T'.map bareT) : sufK (sgnOf (T ++ [e])) = sufK (sgnOf (T' ++ S)) := by
  rcases sgn_bare (S := [e]) (S' := S) hc with ⟨rfl, rfl⟩ | ⟨_, hs⟩
  · simp only [List.nil_append]; rw [(end_stop he).suf, hS.suf]
  · rw [hs]
theorem SameN.wrap {k p p' : Nat} {n m : Nd} (h : SameN false n m) : SameN false (.mk k [] 0 [n] p) (.mk k [] 0 [m] p') := .mk (fun h => by cases h) (.cons h .nil)
/-- What a sign makes of a node. -/
def signed (k : Nat) (n : Nd) (p : Nat) : Nd := if k = 0 then n else .mk k [] 0 [n] p
theorem SameN.signed {k p p' : Nat} {n m : Nd} (h : SameN false n m) : SameN false (signed k n p) (signed k m p') := by
  unfold Go.Proofs.YtlohpplpnddfaaaDoor.signed
  split
  · exact h
  · exact h.wrap
theorem part_some {f d : Nat} {rs rs2 : List Tok} {n : Nd} (h : pOne f d (if preK (sgnOf rs) = 0 then rs else rs.tail) = some (.ok (some n) rs2)) : pPart (f + 1) d rs = some (.ok (some (signed (preK (sgnOf rs)) (signed (sufK (sgnOf rs2)) n n.pos) (posT rs))) (if sufK (sgnOf rs2) = 0 then rs2 else rs2.tail)) := by
  rw [pPart, h]; rfl
theorem part_err {f d c x : Nat} {rs : List Tok} (h : pOne f d (if preK (sgnOf rs) = 0 then rs else rs.tail) = some (.err c x)) : pPart (f + 1) d rs = some (.err c x) := by rw [pPart, h]
theorem swap_part {f : Nat} {e : Tok} {S : List Tok} (he : e.kind = 6) (hS : StopT S) (ih : Swap f e S) {d d' : Nat} {T T' r : List Tok} {n : Option Nd} (hT : NoEnd T) (hc : T.map bareT = T'.map bareT) (hd : d ≤ d') (h : pPart (f + 1) d (T ++ [e]) = some (.ok n r)) : ∃ T2, r = T2 ++ [e] ∧ NoEnd T2 ∧ ((d ≠ d' ∧ ∃ x, pPart (f + 1) d' (T' ++ S) = some (.err 2 x)) ∨ ∃ m T2', pPart (f + 1) d' (T' ++ S) = some (.ok m (T2' ++ S)) ∧ T2.map bareT = T2'.map bareT ∧ SameO n m) := by
  have hp := pre_bare he hS hc
  -- the tokens behind a sign ahead
  obtain ⟨U, U', hU, hcU, eU, eU'⟩ : ∃ U U', NoEnd U ∧ U.map bareT = U'.map bareT ∧ (if preK (sgnOf (T ++ [e])) = 0 then T ++ [e] else (T ++ [e]).tail) = U ++ [e] ∧ (if preK (sgnOf (T' ++ S)) = 0 then T' ++ S else (T' ++ S).tail) = U' ++ S := by
    by_cases h0 : preK (sgnOf (T ++ [e])) = 0
    · exact ⟨T, T', hT, hc, by rw [if_pos h0], by rw [if_pos (by rw [← hp]; exact h0)]⟩
    · rcases bare_cases hc with ⟨rfl, rfl⟩ | ⟨t, t', T1, T1', rfl, rfl, _, _, _, hc1⟩
      · exact absurd (by simpa using (end_stop he).pre) h0
      · exact ⟨T1, T1', hT.tail, hc1, by rw [if_neg h0]; rfl, by rw [if_neg (by rw [← hp]; exact h0)]; rfl⟩
  cases e1 : pOne f d (U ++ [e]) with
  | none => rw [pPart, eU, e1] at h; cases h
  | some x =>
    cases x with
    | err c x => rw [part_err (by rw [eU]; exact e1)] at h; cases h
    | ok a r1 =>
      obtain ⟨T1, rfl, hT1, g⟩ := ih.one hU hcU hd e1
      cases a with
      | none =>
        rw [pPart, eU, e1] at h
        simp only at h
        by_cases h0 : preK (sgnOf (T ++ [e])) = 0
        · rw [if_pos h0] at h
          have e2 := Option.some.inj h
          injection e2 with e3 e4
          subst e3 e4
          rcases g with ⟨hdd, x, g⟩ | ⟨m, T1', g, hc1, hs⟩
          · exact ⟨T1, rfl, hT1, .inl ⟨hdd, x, part_err (by rw [eU']; exact g)⟩⟩
          · cases m with
            | some m => exact hs.elim
            | none =>
              refine ⟨T1, rfl, hT1, .inr ⟨none, T1', ?_, hc1, trivial⟩⟩
              rw [pPart, eU', g]
              simp only
              rw [if_pos (by rw [← hp]; exact h0)]
        · rw [if_neg h0] at h; cases h
      | some n1 =>
        rw [part_some (by rw [eU]; exact e1)] at h
        have e2 := Option.some.inj h
        injection e2 with e3 e4
        subst e3 e4
        rcases g with ⟨hdd, x, g⟩ | ⟨m, T1', g, hc1, hs⟩
        · obtain ⟨T3, e3, hT3⟩ : ∃ T3, (if sufK (sgnOf (T1 ++ [e])) = 0 then T1 ++ [e] else (T1 ++ [e]).tail) = T3 ++ [e] ∧ NoEnd T3 := by
            by_cases h0 : sufK (sgnOf (T1 ++ [e])) = 0
            · exact ⟨T1, by rw [if_pos h0], hT1⟩
            · cases T1 with
              | nil => exact absurd (by simpa using (end_stop he).suf) h0
              | cons t T1 => exact ⟨T1, by rw [if_neg h0]; rfl, hT1.tail⟩
          exact ⟨T3, e3, hT3, .inl ⟨hdd, x, part_err (by rw [eU']; exact g)⟩⟩
        · cases m with
          | none => exact hs.elim
          | some m =>
            have hsf := suf_bare he hS hc1
            have hs2 : SameN false n1 m := hs
            obtain ⟨T3, T3', e3, e3', hT3, hc3⟩ : ∃ T3 T3', (if sufK (sgnOf (T1 ++ [e])) = 0 then T1 ++ [e] else (T1 ++ [e]).tail) = T3 ++ [e] ∧ (if sufK (sgnOf (T1' ++ S)) = 0 then T1' ++ S else (T1' ++ S).tail) = T3' ++ S ∧ NoEnd T3 ∧ T3.map bareT = T3'.map bareT := by
              by_cases h0 : sufK (sgnOf (T1 ++ [e])) = 0
              · exact ⟨T1, T1', by rw [if_pos h0], by rw [if_pos (by rw [← hsf]; exact h0)], hT1, hc1⟩
              · rcases bare_cases hc1 with ⟨rfl, rfl⟩ | ⟨t, t', U1, U1', rfl, rfl, _, _, _, hcU1⟩
                · exact absurd (by simpa using (end_stop he).suf) h0
                · exact ⟨U1, U1', by rw [if_neg h0]; rfl, by rw [if_neg (by rw [← hsf]; exact h0)]; rfl, hT1.tail, hcU1⟩
            refine ⟨T3, e3, hT3, .inr ⟨_, T3', by rw [part_some (by rw [eU']; exact g), e3'], hc3, ?_⟩⟩
            rw [hp, hsf]
            exact (SameN.signed hs2).signed
theorem swap_one {f : Nat} {e : Tok} {S : List Tok} (he : e.kind = 6) (hS : StopT S) (ih : Swap f e S) {d d' : Nat} {T T' r : List Tok} {n : Option Nd} (hT : NoEnd T) (hc : T.map bareT = T'.map bareT) (hd : d ≤ d') (h : pOne (f + 1) d (T ++ [e]) = some (.ok n r)) : ∃ T2, r = T2 ++ [e] ∧ NoEnd T2 ∧ ((d ≠ d' ∧ ∃ x, pOne (f + 1) d' (T' ++ S) = some (.err 2 x)) ∨ ∃ m T2', pOne (f + 1) d' (T' ++ S) = some (.ok m (T2' ++ S)) ∧ T2.map bareT = T2'.map bareT ∧ SameO n m) := by
  rcases bare_cases hc with ⟨rfl, rfl⟩ | ⟨t, t', T1, T1', rfl, rfl, hk, ht, hcl, hc1⟩
  · simp only [List.nil_append] at h ⊢
    rw [(end_stop he).one] at h
    have e2 := Option.some.inj h
    injection e2 with e3 e4
    subst e3 e4
    exact ⟨[], rfl, hT, .inr ⟨none, [], hS.one f d', rfl, trivial⟩⟩
  · have hb := kind_behind he hS hc1
    rw [List.cons_append, pOne] at h
    rw [List.cons_append, pOne, ← hk, ← ht, ← hcl]
    have leaf : ∀ (k : Nat) (x : List UInt8), SameO (some (.mk k x t.cls [] t.pos)) (some (.mk k x t.cls [] t'.pos)) := fun k x => .mk (fun h => by cases h) .nil
    split at h
    · next h1 =>
      rw [if_pos h1]
      by_cases h2 : kindT (T1 ++ [e]) = 2
      · rw [if_pos h2] at h
        rw [if_pos (hb.1 h2)]
        have e2 := Option.some.inj h
        injection e2 with e3 e4
        subst e3 e4
        exact ⟨t :: T1, rfl, hT, .inr ⟨none, t' :: T1', rfl, hc, trivial⟩⟩
      · rw [if_neg h2] at h
        rw [if_neg (fun h => h2 (hb.2 h))]
        have e2 := Option.some.inj h
        injection e2 with e3 e4
        subst e3 e4
        exact ⟨T1, rfl, hT.tail, .inr ⟨_, T1', rfl, hc1, leaf 5 t.text⟩⟩
    next h1 =>
    rw [if_neg h1]
    split at h
    · next h3 =>
      rw [if_pos h3]
      have e2 := Option.some.inj h
      injection e2 with e3 e4
      subst e3 e4
      exact ⟨T1, rfl, hT.tail, .inr ⟨_, T1', rfl, hc1, leaf 2 t.text⟩⟩
    next h3 =>
    rw [if_neg h3]
    split at h
    · next h4 =>
      rw [if_pos h4]
      have e2 := Option.some.inj h
      injection e2 with e3 e4
      subst e3 e4
      exact ⟨T1, rfl, hT.tail, .inr ⟨_, T1', rfl, hc1, leaf 3 t.text⟩⟩
    next h4 =>
    rw [if_neg h4]
    split at h
    · next h5 =>
      rw [if_pos h5]
      have e2 := Option.some.inj h
      injection e2 with e3 e4
      subst e3 e4
      exact ⟨T1, rfl, hT.tail, .inr ⟨_, T1', rfl, hc1, leaf 4 []⟩⟩
    next h5 =>
    rw [if_neg h5]
    split at h
    · next h6 =>
      rw [if_pos h6]
      by_cases h24 : d = 24
      · rw [if_pos h24] at h; cases h
      · rw [if_neg h24] at h
        cases e1 : pChoice f (d + 1) (T1 ++ [e]) with
        | none => rw [e1] at h; cases h
        | some x =>
          rw [e1] at h
          cases x with
          | err c x => cases h
          | ok n1 r1 =>
            simp only at h
            by_cases h41 : sgnOf r1 = [41]
            · rw [if_pos h41] at h
              have e2 := Option.some.inj h
              injection e2 with e3 e4
              subst e3
              by_cases h24' : d' = 24
              · rw [if_pos h24']
                obtain ⟨U, rfl, hU, _⟩ := ih.choice (d' := d + 1) hT.tail (rfl : T1.map bareT = T1.map bareT) (Nat.le_refl _) e1
                cases U with
                | nil => rw [List.nil_append, sgnOf, if_neg (by omega)] at h41; cases h41
                | cons u U =>
                  refine ⟨U, by rw [← e4]; rfl, hU.tail, .inl ⟨by omega, _, rfl⟩⟩
              · rw [if_neg h24']
                obtain ⟨U, rfl, hU, g⟩ := ih.choice (d' := d' + 1) hT.tail hc1 (by omega) e1
                cases U with
                | nil => rw [List.nil_append, sgnOf, if_neg (by omega)] at h41; cases h41
                | cons u U =>
                  refine ⟨U, by rw [← e4]; rfl, hU.tail, ?_⟩
                  rcases g with ⟨hdd, x, g⟩ | ⟨m, U', g, hcU, hs⟩
                  · exact .inl ⟨by omega, x, by rw [g]⟩
                  · obtain ⟨u', U2', rfl, hcU2, hsg⟩ : ∃ u' U2', U' = u' :: U2' ∧ U.map bareT = U2'.map bareT ∧ sgnOf (u :: U ++ [e]) = sgnOf (u' :: U2' ++ S) := by
                      rcases bare_cases hcU with ⟨h, _⟩ | ⟨u1, u', U1, U2', h1, rfl, k1, k2, _, k3⟩
                      · cases h
                      · injection h1 with h1 h2
                        subst h1 h2
                        exact ⟨u', U2', rfl, k3, by simp only [List.cons_append, sgnOf, k1, k2]⟩
                    refine .inr ⟨some m, U2', ?_, hcU2, hs⟩
                    rw [g]
                    simp only
                    rw [if_pos (by rw [← hsg]; exact h41)]
                    rfl
            · rw [if_neg h41] at h; cases h
    next h6 =>
    rw [if_neg h6]
    have e2 := Option.some.inj h
    injection e2 with e3 e4
    subst e3 e4
    exact ⟨t :: T1, rfl, hT, .inr ⟨none, t' :: T1', rfl, hc, trivial⟩⟩
theorem swap_all {e : Tok} {S : List Tok} (he : e.kind = 6) (hS : StopT S) : ∀ f, Swap f e S := by
  intro f
  induction f with
  | zero => exact ⟨fun _ _ _ h => by simp [pChoice] at h, fun _ _ _ _ _ h => by simp [pAlts] at h, fun _ _ _ _ h => by simp [pParts] at h, fun _ _ _ h => by simp [pPart] at h, fun _ _ _ h => by simp [pOne] at h⟩
  | succ f ih => exact ⟨fun a b c h => swap_choice ih a b c h, fun a b c g k h => swap_alts he hS ih a b c g k h, fun a b c g h => swap_parts ih a b c g h, fun a b c h => swap_part he hS ih a b c h, fun a b c h => swap_one he hS ih a b c h⟩
end Go.Proofs.YtlohpplpnddfaaaDoor
