/- scope.Check of any grammar. | scope.Check: right or not, told apart. | scope.Find: the place of a rule. | Trees and rules as the cells of a row, told of the cells alone; a row with one tree exchanged: plain. | The blocks that a call laid for itself. | The walk of the printer laws' small case. -/
import Derived.Test.YtjlcoldnhbkcgaaGreatDoorG40
import Derived.Test.YtjlcoldnhbkcgaaGreatDoorG19
import Derived.Test.YtjlcoldnhbkcgaaGreatDoorG4
import Derived.Test.YtjlcoldnhbkcgaaGreatDoorG7
import Derived.Test.YtjlcoldnhbkcgaaGreatDoorG36
namespace Go.Proofs.YtjlcoldnhbkcgaaGreatDoor
open Go.RowKit Go.Sort Go.Maps

/-- What an error's value is. -/
def CkV (r : Ck) (v : Value) (w : World) : Prop := match r with
  | .ok => v = .nilIface
  | .errno c => v = .iface 66 (.int .i64 (c : Nat))
  | .fault c x => ∃ p, v = .iface 79 (.pointer (some ⟨p, 0, none⟩)) ∧ FaultI p c x w
def CkP (g : List Rr) (w : World) (e : Ending) (w' : World) : Prop := (∃ r v, CkRes g r ∧ e = .returned v ∧ CkV r v w') ∧ Below w.heap.size w w'
theorem isName_len {n : List UInt8} (h : isName n = true) : n.length ≤ 32 := (isName_spec h).2.1
theorem okT_names {n : Tr} (h : OkT n) : ∀ x ∈ rfT n, x.1.length ≤ 1000000 := by
  have subs : ∀ l : List Tr, (∀ m ∈ l, ∀ x ∈ rfT m, x.1.length ≤ 1000000) → ∀ x ∈ rfL l, x.1.length ≤ 1000000 := by
    intro l
    induction l with
    | nil => intro _ x hx; rw [rfL] at hx; cases hx
    | cons m l ih =>
      intro h x hx
      rw [rfL] at hx
      rcases List.mem_append.1 hx with hx | hx
      · exact h m List.mem_cons_self x hx
      · exact ih (fun m hm => h m (List.mem_cons_of_mem _ hm)) x hx
  induction h with
  | empty => intro x hx; simp [rfT, rfL] at hx
  | lit _ => intro x hx; simp [rfT, rfL] at hx
  | set => intro x hx; simp [rfT, rfL] at hx
  | any => intro x hx; simp [rfT, rfL] at hx
  | ref h =>
    intro x hx
    simp [rfT, rfL] at hx
    subst hx
    exact Nat.le_trans (isName_len h) (by decide)
  | seq _ _ ih => intro x hx; rw [rfT, if_neg (by decide), List.nil_append] at hx; exact subs _ ih x hx
  | alt _ _ ih => intro x hx; rw [rfT, if_neg (by decide), List.nil_append] at hx; exact subs _ ih x hx
  | post hk _ ih => intro x hx; rw [rfT, if_neg (by omega), List.nil_append] at hx; exact subs _ (fun m hm => by rw [List.mem_singleton.1 hm]; exact ih) x hx
  | pre hk _ ih => intro x hx; rw [rfT, if_neg (by omega), List.nil_append] at hx; exact subs _ (fun m hm => by rw [List.mem_singleton.1 hm]; exact ih) x hx
mutual
theorem rfT_len : ∀ n : Tr, (rfT n).length ≤ n.bulk
  | .mk k t _ l p => by
    have := rfL_len l
    rw [rfT, List.length_append, Tr.bulk]
    split
    · simp; omega
    · simp; omega
theorem rfL_len : ∀ l : List Tr, (rfL l).length ≤ Tr.bulks l
  | [] => by rw [rfL, Tr.bulks]; exact Nat.le_refl _
  | n :: l => by
    have h1 := rfT_len n
    have h2 := rfL_len l
    rw [rfL, List.length_append, Tr.bulks]
    omega
end
theorem rf_few {g : List Rr} {y : Rr} (hb : Rr.bulks g ≤ 1000000000) (hy : y ∈ g) : (rfT y.body).length ≤ 1000000000 := by
  have h1 := bulk_rule hy
  have h2 := rfT_len y.body
  rw [Rr.bulk] at h1
  omega
set_option maxRecDepth 100000 in
set_option maxHeartbeats 6400000 in
theorem check_any {g : List Rr} {v : Value} {P : Nat → Prop} (w : World) (hg : Laid w) (hr : RepGr w P g v) (hP : ∀ b, P b → b < w.heap.size) (hb : Rr.bulks g ≤ 1000000000) : Calls Tryz.prog 18 #[.agg #[v]] w (CkP g w) := by
  obtain ⟨n, hn⟩ : ∃ n, n = g.length := ⟨_, rfl⟩
  obtain ⟨a, cap, rfl, hcap, hmax⟩ := hr.slice
  have HX := Lib.hid (fun (w' : World) (h : Below w.heap.size w w') => right_any w' (hg.below h hg.pos) (hr.on hP h) (fun b hb => Nat.lt_of_lt_of_le (hP b hb) h.size) hb)
  have HPL := Lib.hid (fun (w' : World) (h : Below w.heap.size w w') => places_any w' (hr.on hP h) (fun b hb => Nat.lt_of_lt_of_le (hP b hb) h.size))
  have HBF := Lib.hid (fun (y : Rr) (hy : y ∈ g) => rf_few hb hy)
  have HR := Lib.hid hr
  have HP := Lib.hid hP
  rw [← hn] at HX HPL HR hcap ⊢
  have HN := Lib.hid hn
  have hm1 := cell_alloc_lt
  clear hg hr hP hb hmax hn
  go_enter Tryz.func18, Tryz.ntmps18
  repeat (first | go_values | go_skip | go_guarded | go_step | go_upon)
  refine (HX.out _ (by repeat (first | exact Below.refl _ _ | assumption | refine bal ?_ _ | refine bdr ?_ | refine bdrn ?_ _ | (refine bset ?_ (by first | exact Nat.le_refl _ | (simp; done) | (simp; omega) | omega) _) | refine bstep ?_ (by assumption)))).mono ?_
  rintro e w1 ⟨⟨r, hr1, rfl⟩, hb1⟩
  have hw1 : Below w.heap.size w w1 := (bal (Below.refl _ w) _).trans (hb1.mono (by simp))
  have HR1 := Lib.hid hr1
  have c1 : w1.cell? ⟨w.heap.size, 0, none⟩ = some (.slice a n cap) := (hb1.cell (p := ⟨w.heap.size, 0, none⟩) (by simp)).trans (by simp)
  have q1 : w.heap.size < w1.heap.size := by have := hb1.size; simp at this; omega
  cases r with
  | inl c =>
    clear hr1
    dsimp only [rtVal]
    repeat (first | go_values | go_skip | go_guarded | go_step | go_upon)
    go_ret
    exact ⟨⟨.errno c, _, .inl ⟨c, HR1.out, rfl⟩, rfl, rfl⟩, hw1⟩
  | inr s =>
    have hok := (res_text hr1).2.1
    obtain ⟨hall, hn0, hn64⟩ := okG_all hok
    have HA := Lib.hid hall
    have hnm : ∀ y ∈ g, y.name.length ≤ 1000000 := fun y hy => by have := isName_len (hall y hy).1; omega
    have HNM := Lib.hid hnm
    have h64 : n ≤ 1000000 := by have := HN.out; omega
    clear hr1 hok hall
    dsimp only [rtVal]
    repeat (first | go_values | go_skip | go_guarded | go_step | go_upon)
    refine (HPL.out w1 hw1 hnm h64).mono ?_
    rintro e w2 ⟨m, D, rfl, hm, hown, hD, hb2⟩
    have hw2 : Below w.heap.size w w2 := hw1.trans (hb2.mono hw1.size)
    have c2 : w2.cell? ⟨w.heap.size, 0, none⟩ = some (.slice a n cap) := (hb2.cell (p := ⟨w.heap.size, 0, none⟩) q1).trans c1
    have q2 : w.heap.size < w2.heap.size := Nat.lt_of_lt_of_le q1 hb2.size
    have HO := Lib.hid hown
    have HD := Lib.hid hD
    have qm := hown.lt
    clear hnm hown hD
    dsimp only
    repeat (first | go_values | go_skip | go_guarded | go_step | go_upon)
    go_loopw [21] (fun tt wr => ∃ j : Nat, tt = .int .i64 (j : Int) ∧ j ≤ n ∧ Hid (∀ i y, i < j → g[i]? = some y → fdx g y.name = some i) ∧ Below (w2.heap.size + 1) (w2.alloc (.cells #[.map (some m)] 70)) wr) (fun tt _ => n - (intOf tt).toNat)
    case atStart => exact ⟨0, rfl, Nat.zero_le _, Lib.hid (fun i y hi => absurd hi (Nat.not_lt_zero _)), Below.refl _ _⟩
    case round =>
      obtain ⟨j, rfl, hj, HI, hbr⟩ := hrel
      have HB := Lib.hid hbr
      have hz := hbr.size
      simp only [World.size_alloc] at hz
      have hw : Below w.heap.size w wr := hw2.trans (((bal (Below.refl _ w2) (.cells #[.map (some m)] 70)).trans (hbr.mono (Nat.le_succ _))).mono hw2.size)
      have HW := Lib.hid hw
      have hmap := owns_same HO.out ((hbr.block m (by omega)).trans (RowKit.Below.heap_alloc _ _ m qm))
      have HMP := Lib.hid hmap
      have hbox : wr.heap[w2.heap.size]? = some (.cells #[.map (some m)] 70 (0, 0)) := (hbr.block w2.heap.size (by omega)).trans (heap_alloc_new w2 _)
      have HBX := Lib.hid hbox
      have cr : wr.cell? ⟨w.heap.size, 0, none⟩ = some (.slice a n cap) := (hbr.cell (p := ⟨w.heap.size, 0, none⟩) (by show w.heap.size < _; omega)).trans ((cell_alloc_lt _ _ _ _ q2).trans c2)
      have b1 := (cells_at hbox).1 0
      have b2 : w2.heap.size < wr.heap.size := by omega
      clear hbr hw hbox
      by_cases hlt : j < n
      · have hlt2 : j < g.length := by rw [← HN.out]; exact hlt
        obtain ⟨y, hy⟩ : ∃ y, g[j]? = some y := ⟨g[j], List.getElem?_eq_getElem hlt2⟩
        have hmem := List.mem_of_getElem? hy
        rcases HR.out.parts with ⟨e, _⟩ | ⟨e, _⟩ | ⟨gg, o, cap', e, hgg, _, hcp, hmx, hr⟩
        · rw [e] at hlt2; simp at hlt2
        · rw [e] at hlt2; simp at hlt2
        · obtain rfl : a = some ⟨gg, o, none⟩ := by injection e
          obtain ⟨k1, t1, x1, sa, sn, sc, p1, l1, eb, q0, _, a9, a0, a1, a2, a3, a4, a5, a6, a7, a8⟩ := (hr.mono (w' := wr) (P' := P) (fun b' hb' => HW.out.block b' (HP.out b' hb')) (fun _ h => h) hgg).get hy
          have d1 : decide ((j : Int) < n) = true := by simpa using hlt
          have k5 : IntKind.i64.wrap ((j : Int) + 1) = (j : Int) + 1 := by rw [IntKind.wrap_i64]; omega
          obtain ⟨c, hrun, hat, _⟩ := (hmap.alloc (.cells #[.string (mkS y.name), .int .i64 k1, .string (mkS t1), .int .u64 (wd x1 0), .int .u64 (wd x1 1), .int .u64 (wd x1 2), .int .u64 (wd x1 3), .slice sa sn sc, .int .i64 p1, .int .i64 y.pos] 42)).lookup_int str_law map_si Tryz.underlying3 (zero_int _) (key_name (HNM.out y hmem))
          obtain ⟨k, hk⟩ : ∃ k, fdx g y.name = some k := by
            cases hF : fdx g y.name with
            | none => exact absurd rfl (fdx_none.1 hF y hmem)
            | some k => exact ⟨k, rfl⟩
          have hkc := (HD.out y.name).2 k hk
          rw [hat] at hkc
          injection hkc with hkc
          injection hkc with _ hkc
          subst hkc
          have HY := Lib.hid hy
          have HK := Lib.hid hk
          by_cases hkj : k = j
          · subst hkj
            have m1 : (((k : Nat) : Int) != (k : Int)) = false := by simp
            have HI2 := Lib.hid (show ∀ i y, i < k + 1 → g[i]? = some y → fdx g y.name = some i from fun i z hi hz' => by
              rcases Nat.lt_or_ge i k with h1 | h1
              · exact HI.out i z h1 hz'
              · obtain rfl : i = k := by omega
                have := HY.out
                rw [hz'] at this
                injection this with this
                subst this
                exact HK.out)
            clear e hr eb q0 hat hmap hy hk hmem
            repeat (first | go_values | go_skip | go_guarded | go_step | go_upon)
            exact ⟨⟨k + 1, by go_num, by omega, HI2, HB.out.alloc (by omega) _⟩, by simp [intOf]; omega⟩
          · have m1 : ((k : Int) != (j : Int)) = true := by simp; omega
            clear e hr eb q0 hat hmap hy hk hmem
            repeat (first | go_values | go_skip | go_guarded | go_step | go_upon)
            go_ret
            exact ⟨⟨.fault 30 y.pos, _, .inr (.inl ⟨s, j, y, HR1.out, HY.out, by rw [HK.out]; intro e; injection e with e; exact hkj e, rfl⟩), rfl, _, rfl, allocs_new wr _ _⟩, HW.out.trans ((bal (bal (Below.refl _ wr) _) _).mono HW.out.size)⟩
      · have d1 : decide (j < n) = false := by simpa using hlt
        have HAP := Lib.hid (show Apart g from fun i y hi => HI.out i y (by have h1 := (List.getElem?_eq_some_iff.1 hi).1; have h2 := HN.out; omega) hi)
        clear hlt hmap HMP HBX b1 HI
        repeat (first | go_values | go_skip | go_guarded | go_step | go_upon)
        go_loopw [41] (fun tt w4 => ∃ j : Nat, tt = .int .i64 (j : Int) ∧ j ≤ n ∧ Hid (∀ i y, i < j → g[i]? = some y → (rfT y.body).all (known g) = true) ∧ Below (w2.heap.size + 1) (w2.alloc (.cells #[.map (some m)] 70)) w4) (fun tt _ => n - (intOf tt).toNat)
        case atStart => exact ⟨0, rfl, Nat.zero_le _, Lib.hid (fun i y hi => absurd hi (Nat.not_lt_zero _)), HB.out⟩
        case round =>
          obtain ⟨j, rfl, hj, HI, hbr⟩ := hrel
          have HB2 := Lib.hid hbr
          have hz4 := hbr.size
          simp only [World.size_alloc] at hz4
          have hw4 : Below w.heap.size w wr := hw2.trans (((bal (Below.refl _ w2) (.cells #[.map (some m)] 70)).trans (hbr.mono (Nat.le_succ _))).mono hw2.size)
          have HW4 := Lib.hid hw4
          have HMP := Lib.hid (owns_same HO.out ((hbr.block m (by omega)).trans (RowKit.Below.heap_alloc _ _ m qm)))
          have HBX := Lib.hid (show wr.heap[w2.heap.size]? = some (.cells #[.map (some m)] 70 (0, 0)) from (hbr.block w2.heap.size (by omega)).trans (heap_alloc_new w2 _))
          clear hbr hw4 cr b2 d1
          by_cases hlt : j < n
          · have hlt2 : j < g.length := by rw [← HN.out]; exact hlt
            obtain ⟨y, hy⟩ : ∃ y, g[j]? = some y := ⟨g[j], List.getElem?_eq_getElem hlt2⟩
            have hmem := List.mem_of_getElem? hy
            rcases HR.out.parts with ⟨e, _⟩ | ⟨e, _⟩ | ⟨gg, o, cap', e, hgg, _, hcp, hmx, hr⟩
            · rw [e] at hlt2; simp at hlt2
            · rw [e] at hlt2; simp at hlt2
            · obtain rfl : a = some ⟨gg, o, none⟩ := by injection e
              obtain ⟨k1, t1, x1, sa, sn, sc, p1, l1, eb, q0, _, a9, a0, a1, a2, a3, a4, a5, a6, a7, a8⟩ := (hr.mono (w' := wr) (P' := P) (fun b' hb' => HW4.out.block b' (HP.out b' hb')) (fun _ h => h) hgg).get hy
              have d1 : decide ((j : Int) < n) = true := by simpa using hlt
              have k5 : IntKind.i64.wrap ((j : Int) + 1) = (j : Int) + 1 := by rw [IntKind.wrap_i64]; omega
              have hPw : ∀ b, P b → b < wr.heap.size := fun b hb => Nat.lt_of_lt_of_le (HP.out b hb) HW4.out.size
              have hE5 : ∀ b, b < wr.heap.size → ((wr.alloc (.cells #[.string (mkS y.name), .int .i64 k1, .string (mkS t1), .int .u64 (wd x1 0), .int .u64 (wd x1 1), .int .u64 (wd x1 2), .int .u64 (wd x1 3), .slice sa sn sc, .int .i64 p1, .int .i64 y.pos] 42)).alloc (.cells #[.int .i64 0] 3)).heap[b]? = wr.heap[b]? := fun b hb => (RowKit.Below.heap_alloc _ _ _ (by simp; omega)).trans (RowKit.Below.heap_alloc _ _ _ hb)
              have HE5 := Lib.hid hE5
              have hA5 : ((wr.alloc (.cells #[.string (mkS y.name), .int .i64 k1, .string (mkS t1), .int .u64 (wd x1 0), .int .u64 (wd x1 1), .int .u64 (wd x1 2), .int .u64 (wd x1 3), .slice sa sn sc, .int .i64 p1, .int .i64 y.pos] 42)).alloc (.cells #[.int .i64 0] 3)).heap[wr.heap.size + 1]? = some (.cells #[.int .i64 0] 3 (0, 0)) := allocs_new wr _ _
              have hYC : YieldC (wr.heap.size + 2) 36 w2.heap.size (wr.heap.size + 1) (CkS (wr.heap.size + 2) (wr.heap.size + 1) ((wr.alloc (.cells #[.string (mkS y.name), .int .i64 k1, .string (mkS t1), .int .u64 (wd x1 0), .int .u64 (wd x1 1), .int .u64 (wd x1 2), .int .u64 (wd x1 3), .slice sa sn sc, .int .i64 p1, .int .i64 y.pos] 42)).alloc (.cells #[.int .i64 0] 3))) (known g) := check1_any HD.out (by have h := owns_same HMP.out (hE5 m (by omega)); rwa [HN.out] at h) ((hE5 w2.heap.size (by omega)).trans HBX.out) (by omega) (by omega) (by omega) (by omega) (by omega)
              have hRC : RefC (wr.heap.size + 2) 36 w2.heap.size (wr.heap.size + 1) (CkS (wr.heap.size + 2) (wr.heap.size + 1) ((wr.alloc (.cells #[.string (mkS y.name), .int .i64 k1, .string (mkS t1), .int .u64 (wd x1 0), .int .u64 (wd x1 1), .int .u64 (wd x1 2), .int .u64 (wd x1 3), .slice sa sn sc, .int .i64 p1, .int .i64 y.pos] 42)).alloc (.cells #[.int .i64 0] 3))) (known g) ((wr.alloc (.cells #[.string (mkS y.name), .int .i64 k1, .string (mkS t1), .int .u64 (wd x1 0), .int .u64 (wd x1 1), .int .u64 (wd x1 2), .int .u64 (wd x1 3), .slice sa sn sc, .int .i64 p1, .int .i64 y.pos] 42)).alloc (.cells #[.int .i64 0] 3)) P y.body := refs_any (enters_of Tryz.func36 (by kernel_rfl) rfl) (fun _ W h b hb => h.other b (by have := hPw b hb; omega) (by have := hPw b hb; omega)) (cks_stab (by omega)) hYC y.body
              have HC := Lib.hid (fun (q : Bool) (hq : (rfT y.body).all (known g) = q) => hRC [] _ q ((wr.alloc (.cells #[.string (mkS y.name), .int .i64 k1, .string (mkS t1), .int .u64 (wd x1 0), .int .u64 (wd x1 1), .int .u64 (wd x1 2), .int .u64 (wd x1 3), .slice sa sn sc, .int .i64 p1, .int .i64 y.pos] 42)).alloc (.cells #[.int .i64 0] 3)) (by have := HBF.out y hmem; simp only [List.length_nil]; omega) (okT_names (HA.out y hmem).2) hq (q0.mono (w' := ((wr.alloc (.cells #[.string (mkS y.name), .int .i64 k1, .string (mkS t1), .int .u64 (wd x1 0), .int .u64 (wd x1 1), .int .u64 (wd x1 2), .int .u64 (wd x1 3), .slice sa sn sc, .int .i64 p1, .int .i64 y.pos] 42)).alloc (.cells #[.int .i64 0] 3))) (fun b hb => hE5 b (hPw b hb)) (fun _ h => h)) (by simp) ⟨fun _ _ _ => rfl, hA5⟩)
              dsimp only [trC, fnV] at HC
              have HY := Lib.hid hy
              have HME := Lib.hid hmem
              clear e hr eb q0 hy hmem hPw hE5 hA5 hYC hRC
              repeat (first | go_values | go_skip | go_guarded | go_step | go_upon)
              cases hq : (rfT y.body).all (known g) with
              | true =>
                refine (HC.out true hq).mono ?_
                rintro e w6 ⟨rfl, hs, hm6⟩
                have HI2 := Lib.hid (show ∀ i z, i < j + 1 → g[i]? = some z → (rfT z.body).all (known g) = true from fun i z hi hz' => by
                  rcases Nat.lt_or_ge i j with h1 | h1
                  · exact HI.out i z h1 hz'
                  · obtain rfl : i = j := by omega
                    have := HY.out
                    rw [hz'] at this
                    injection this with this
                    subst this
                    exact hq)
                have HB6 := Lib.hid (show Below (w2.heap.size + 1) (w2.alloc (.cells #[.map (some m)] 70)) w6 from HB2.out.trans ⟨hm6.os, hm6.tape, hm6.output, by have := hm6.size; simp at this; omega, fun b hb => (hs.other b (by omega) (by omega)).trans (HE5.out b (by omega))⟩)
                clear hq hs hm6
                dsimp only
                repeat (first | go_values | go_skip | go_guarded | go_step | go_upon)
                exact ⟨⟨j + 1, by go_num, by omega, HI2, HB6.out⟩, by simp [intOf]; omega⟩
              | false =>
                refine (HC.out false hq).mono ?_
                rintro e w6 ⟨rfl, hs, hm6⟩
                obtain ⟨v1, x, v2, hv1, hv2, hv3, hv4⟩ := vis_fail hq
                have hat := hs.at_
                rw [hv4, List.nil_append, lastAt_snoc] at hat
                have f1 := (cells_at hat).1 0
                have HV := Lib.hid (show rfT y.body = v1 ++ x :: v2 ∧ v1.all (known g) = true ∧ known g x = false from ⟨hv1, hv2, hv3⟩)
                have HB6 := Lib.hid (show Below w.heap.size w w6 from HW4.out.trans ⟨hm6.os, hm6.tape, hm6.output, by have := hm6.size; simp at this; omega, fun b hb => (hs.other b (by have := HW4.out.size; omega) (by have := HW4.out.size; omega)).trans (HE5.out b (by have := HW4.out.size; omega))⟩)
                clear hq hs hm6 hat hv1 hv2 hv3 hv4
                dsimp only
                repeat (first | go_values | go_skip | go_guarded | go_step | go_upon)
                go_ret
                exact ⟨⟨.fault 31 x.2, _, .inr (.inr (.inl ⟨s, y, x, v1, v2, HR1.out, HAP.out, HME.out, HV.out.1, HV.out.2.1, HV.out.2.2, rfl⟩)), rfl, _, rfl, heap_alloc_new w6 _⟩, HB6.out.alloc HB6.out.size _⟩
          · have d1 : decide (j < n) = false := by simpa using hlt
            have HALL := Lib.hid (show ∀ y ∈ g, (rfT y.body).all (known g) = true from fun y hy => by
              obtain ⟨i, hi⟩ := List.mem_iff_getElem?.1 hy
              exact HI.out i y (by have h1 := (List.getElem?_eq_some_iff.1 hi).1; have h2 := HN.out; omega) hi)
            clear hlt HI
            repeat (first | go_values | go_skip | go_guarded | go_step | go_upon)
            go_ret
            exact ⟨⟨.ok, _, .inr (.inr (.inr ⟨s, HR1.out, HAP.out, HALL.out, rfl⟩)), rfl, rfl⟩, HW4.out⟩
end Go.Proofs.YtjlcoldnhbkcgaaGreatDoor
namespace Go.Proofs.YtjlcoldnhbkcgaaGreatDoor
open Go.RowKit Go.Sort

/-- A grammar whose names are right. -/
def CkOk (g : List Rr) : Prop := (∃ s, PrRes g (.inr s)) ∧ Apart g ∧ ∀ y ∈ g, (rfT y.body).all (known g) = true
theorem PrRes.det {g : List Rr} {s : List UInt8} {c : Nat} (h : PrRes g (.inr s)) (h' : PrRes g (.inl c)) : False := by
  obtain ⟨_, h1, h2, hs, h3⟩ := res_text h
  have := res_is h' h1 h2 h3
  cases this
theorem ck_ok {g : List Rr} (h : CkOk g) {r : Ck} (hr : CkRes g r) : r = .ok := by
  obtain ⟨⟨s, h1⟩, h2, h3⟩ := h
  rcases hr with ⟨c, hc, _⟩ | ⟨_, i, y, _, hi, hn, _⟩ | ⟨_, y, x, l1, l2, _, _, hy, he, _, hk, _⟩ | ⟨_, _, _, _, e⟩
  · exact (h1.det hc).elim
  · exact absurd (h2 i y hi) hn
  · have := List.all_eq_true.1 (h3 y hy) x (by rw [he]; simp)
    rw [hk] at this; cases this
  · exact e
theorem ck_no {g : List Rr} (h : ¬ CkOk g) {r : Ck} (hr : CkRes g r) : r ≠ .ok := by
  rintro rfl
  rcases hr with ⟨_, _, e⟩ | ⟨_, _, _, _, _, _, e⟩ | ⟨_, _, _, _, _, _, _, _, _, _, _, e⟩ | ⟨s, h1, h2, h3, _⟩
  · cases e
  · cases e
  · cases e
  · exact h ⟨⟨s, h1⟩, h2, h3⟩
/-- An error's value. -/
def ErrV (v : Value) : Prop := (∃ c : Int, v = .iface 66 (.int .i64 c)) ∨ ∃ p : Nat, v = .iface 79 (.pointer (some ⟨p, 0, none⟩))
theorem check_ok {g : List Rr} {v : Value} {P : Nat → Prop} (w : World) (hg : Laid w) (hr : RepGr w P g v) (hP : ∀ b, P b → b < w.heap.size) (hb : Rr.bulks g ≤ 1000000000) (hc : CkOk g) : Calls Tryz.prog 18 #[.agg #[v]] w (Ans .nilIface w) := by
  refine (check_any w hg hr hP hb).mono ?_
  rintro e w' ⟨⟨r, v, h1, rfl, h2⟩, h3⟩
  obtain rfl := ck_ok hc h1
  obtain rfl : v = .nilIface := h2
  exact ⟨rfl, h3⟩
theorem check_no {g : List Rr} {v : Value} {P : Nat → Prop} (w : World) (hg : Laid w) (hr : RepGr w P g v) (hP : ∀ b, P b → b < w.heap.size) (hb : Rr.bulks g ≤ 1000000000) (hc : ¬ CkOk g) : Calls Tryz.prog 18 #[.agg #[v]] w (fun e w' => (∃ v, e = .returned v ∧ ErrV v) ∧ Below w.heap.size w w') := by
  refine (check_any w hg hr hP hb).mono ?_
  rintro e w' ⟨⟨r, v, h1, rfl, h2⟩, h3⟩
  cases r with
  | ok => exact absurd rfl (ck_no hc h1)
  | errno c => obtain rfl : v = _ := h2; exact ⟨⟨_, rfl, .inl ⟨_, rfl⟩⟩, h3⟩
  | fault c x =>
    obtain ⟨p, rfl, _⟩ := h2
    exact ⟨⟨_, rfl, .inr ⟨_, rfl⟩⟩, h3⟩
theorem CkOk.okg {g : List Rr} (h : CkOk g) : okG g = true := by
  obtain ⟨⟨s, h1⟩, _⟩ := h
  exact (res_text h1).2.1
theorem known_name {g : List Rr} {y : Rr} (h : Apart g) (hy : y ∈ g) (p : Int) : known g (y.name, p) = true := by
  obtain ⟨i, hi⟩ := List.mem_iff_getElem?.1 hy
  rw [known, h i y hi]
  rfl
end Go.Proofs.YtjlcoldnhbkcgaaGreatDoor
namespace Go.Proofs.YtjlcoldnhbkcgaaGreatDoor
open Go.RowKit Go.Sort

def fdV (g : List Rr) (n : List UInt8) : Int := match fdx g n with
  | some i => (i : Int)
  | none => -1
set_option maxRecDepth 100000 in
set_option maxHeartbeats 3200000 in
theorem find1_any {y : Rr} {nm : List UInt8} (q : Bool) (hq : decide (y.name = nm) = q) (w : World) (P : Nat → Prop) (cs : List Value) (hr : RepA w P y.body cs) (nb : Nat) (hb : w.heap[nb]? = some (.cells #[.string (mkS nm)] 9 (0, 0))) : Calls Tryz.prog 38 #[.agg (ruC y cs).toArray, .pointer (some ⟨nb, 0, none⟩)] w (Ans (.bool q) w) := by
  obtain ⟨n, bd, pp⟩ := y
  obtain ⟨k, t, x, v, l, p, hbd, rfl, hl⟩ := hr.form
  obtain ⟨sa, cap, rfl, _⟩ := hl.slice
  have hm1 := cell_alloc_lt
  have b1 := (cells_at hb).1 0
  have b2 := (cells_at hb).2.2
  dsimp only at hq
  have s1 : ((mkS n).toList == (mkS nm).toList) = q := by rw [Go.ByteArray.toList_eq, Go.ByteArray.toList_eq, mkS_data, mkS_data, ← hq]; by_cases h : n = nm <;> simp [h]
  clear hr hl hbd hb hq
  dsimp only [trC, ruC, List.cons_append, List.nil_append]
  go_enter Tryz.func38, Tryz.ntmps38
  repeat (first | go_values | go_skip | go_guarded | go_step | go_upon)
  go_ret
  exact ⟨rfl, (by repeat (first | exact Below.refl _ _ | assumption | refine bal ?_ _ | refine bdr ?_ | refine bdrn ?_ _ | (refine bset ?_ (by first | exact Nat.le_refl _ | (simp; done) | (simp; omega) | omega) _) | refine bstep ?_ (by assumption)))⟩
set_option maxRecDepth 100000 in
set_option maxHeartbeats 3200000 in
theorem index_name {l : List Rr} {v : Value} {P : Nat → Prop} {nm : List UInt8} (nb : Nat) (w : World) (hl : RepGr w P l v) (hP : ∀ b, P b → b < w.heap.size) (hnb : w.heap[nb]? = some (.cells #[.string (mkS nm)] 9 (0, 0))) : Calls Tryz.prog 37 #[v, .func (.func 38) #[] #[.pointer (some ⟨nb, 0, none⟩)]] w (Ans (.int .i64 (fdV l nm)) w) := by
  obtain ⟨n, hn⟩ : ∃ n, n = l.length := ⟨_, rfl⟩
  obtain ⟨a, cap, rfl, hcap, hmax⟩ := hl.slice
  have HL := Lib.hid hl
  have HP := Lib.hid hP
  have HNB := Lib.hid hnb
  have qn := (Array.getElem?_eq_some_iff.1 hnb).1
  have hm1 := cell_alloc_lt
  rw [← hn] at hcap hmax ⊢
  have HN := Lib.hid hn
  unfold maxLen at hmax
  clear hl hP hn hnb
  go_enter Tryz.func37, Tryz.ntmps37
  repeat (first | go_values | go_skip | go_guarded | go_step | go_upon)
  go_loopw [8] (fun tt wr => ∃ j : Nat, tt = .int .i64 (j : Int) ∧ j ≤ n ∧ Hid (∀ i y, i < j → l[i]? = some y → y.name ≠ nm) ∧ Below w.heap.size w wr) (fun tt _ => n - (intOf tt).toNat)
  case atStart => exact ⟨0, rfl, Nat.zero_le _, Lib.hid (fun i y hi => absurd hi (Nat.not_lt_zero _)), Below.refl _ _⟩
  case round =>
    obtain ⟨j, rfl, hj, HI, hbr⟩ := hrel
    by_cases hlt : j < n
    · have hlt2 : j < l.length := by rw [← HN.out]; exact hlt
      obtain ⟨y, hy⟩ : ∃ y, l[j]? = some y := ⟨l[j], List.getElem?_eq_getElem hlt2⟩
      rcases HL.out.parts with ⟨e, _⟩ | ⟨e, _⟩ | ⟨g, o, cap', e, hg, _, _, _, hr⟩
      · rw [e] at hlt2; simp at hlt2
      · rw [e] at hlt2; simp at hlt2
      · obtain rfl : a = some ⟨g, o, none⟩ := by injection e
        have HW := Lib.hid hbr
        obtain ⟨k1, t1, x1, sa, sn, sc, p1, l1, _, q0, _, a9, a0, a1, a2, a3, a4, a5, a6, a7, a8⟩ := (hr.mono (w' := wr) (P' := P) (fun b hb => HW.out.block b (HP.out b hb)) (fun _ h => h) hg).get hy
        have HC := Lib.hid (fun q hq => find1_any (y := y) (nm := nm) q hq wr P _ q0 nb ((hbr.block nb qn).trans HNB.out))
        have d1 : decide ((j : Int) < n) = true := by simpa using hlt
        have k5 : IntKind.i64.wrap ((j : Int) + 1) = (j : Int) + 1 := by rw [IntKind.wrap_i64]; omega
        have HY := Lib.hid hy
        clear hy q0 hr e
        dsimp only [trC, ruC, List.cons_append, List.nil_append] at HC
        by_cases hq : y.name = nm
        · have HQ := Lib.hid hq
          clear hq
          repeat (first | go_values | go_skip | go_guarded | go_step | go_upon)
          refine (HC.out true (decide_eq_true HQ.out)).mono ?_
          rintro e w1 ⟨rfl, hb1⟩
          have H2 := Lib.hid (show fdV l nm = (j : Int) by
            have h := fdx_some.2 ⟨⟨y, HY.out, HQ.out⟩, HI.out⟩
            rw [fdV, h])
          dsimp only
          repeat (first | go_values | go_skip | go_guarded | go_step | go_upon)
          go_ret
          exact ⟨by rw [H2.out]; rfl, hbr.trans (hb1.mono hbr.size)⟩
        · have HQ := Lib.hid hq
          clear hq
          repeat (first | go_values | go_skip | go_guarded | go_step | go_upon)
          refine (HC.out false (decide_eq_false HQ.out)).mono ?_
          rintro e w1 ⟨rfl, hb1⟩
          have HI2 := Lib.hid (show ∀ i z, i < j + 1 → l[i]? = some z → z.name ≠ nm from fun i z hi hz => by
            rcases Nat.lt_or_ge i j with h1 | h1
            · exact HI.out i z h1 hz
            · obtain rfl : i = j := by omega
              have := HY.out
              rw [hz] at this
              injection this with this
              rw [this]
              exact HQ.out)
          dsimp only
          repeat (first | go_values | go_skip | go_guarded | go_step | go_upon)
          exact ⟨⟨j + 1, by go_num, by omega, HI2, hbr.trans (hb1.mono hbr.size)⟩, by simp [intOf]; omega⟩
    · have d1 : decide (j < n) = false := by simpa using hlt
      have H2 := Lib.hid (show fdV l nm = -1 by
        have h : fdx l nm = none := fdx_none.2 (fun y hy => by
          obtain ⟨i, hi⟩ := List.mem_iff_getElem?.1 hy
          exact HI.out i y (by have h1 := (List.getElem?_eq_some_iff.1 hi).1; have h2 := HN.out; omega) hi)
        rw [fdV, h])
      clear hlt HI
      repeat (first | go_values | go_skip | go_guarded | go_step | go_upon)
      go_ret
      exact ⟨by rw [H2.out]; rfl, hbr⟩
set_option maxRecDepth 100000 in
set_option maxHeartbeats 3200000 in
theorem find_any {g : List Rr} {v : Value} {P : Nat → Prop} {nm : List UInt8} (w : World) (hr : RepGr w P g v) (hP : ∀ b, P b → b < w.heap.size) : Calls Tryz.prog 19 #[.agg #[v], .string (mkS nm)] w (Ans (.int .i64 (fdV g nm)) w) := by
  obtain ⟨a, cap, rfl, _⟩ := hr.slice
  have HC := Lib.hid (index_name (nm := nm) (w.heap.size + 1) ((w.alloc (.cells #[.slice a g.length cap] 24)).alloc (.cells #[.string (mkS nm)] 9)) (hr.mono (fun b hb => (RowKit.Below.heap_alloc _ _ _ (by have := hP b hb; simp; omega)).trans (RowKit.Below.heap_alloc _ _ _ (hP b hb))) (fun _ h => h)) (fun b hb => by have := hP b hb; simp; omega) (by have h := heap_alloc_new (w.alloc (.cells #[.slice a g.length cap] 24)) (.cells #[.string (mkS nm)] 9); simpa using h))
  have hm1 := cell_alloc_lt
  clear hr hP
  go_enter Tryz.func19, Tryz.ntmps19
  repeat (first | go_values | go_skip | go_guarded | go_step | go_upon)
  refine HC.out.mono ?_
  rintro e w1 ⟨rfl, hb1⟩
  dsimp only
  repeat (first | go_values | go_skip | go_guarded | go_step | go_upon)
  go_ret
  exact ⟨rfl, (by repeat (first | exact Below.refl _ _ | assumption | refine bal ?_ _ | refine bdr ?_ | refine bdrn ?_ _ | (refine bset ?_ (by first | exact Nat.le_refl _ | (simp; done) | (simp; omega) | omega) _) | refine bstep ?_ (by assumption)))⟩
end Go.Proofs.YtjlcoldnhbkcgaaGreatDoor
namespace Go.Proofs.YtjlcoldnhbkcgaaGreatDoor
open Go.RowKit Go.Sort

/-- These cells are those trees, one behind another. -/
inductive RepsA (w : World) (P : Nat → Prop) : List Tr → List Value → Prop
  | nil : RepsA w P [] []
  | cons {n : Tr} {l : List Tr} {c cs : List Value} : RepA w P n c → RepsA w P l cs → RepsA w P (n :: l) (c ++ cs)
theorem RepA.length {w : World} {P : Nat → Prop} {n : Tr} {c : List Value} (h : RepA w P n c) : c.length = 8 := by cases h; rfl
theorem RepA.subs {w : World} {P : Nat → Prop} {k p : Int} {t : List UInt8} {c : BitVec 256} {l : List Tr} {cs : List Value} (h : RepA w P (.mk k t c l p) cs) : ∃ a m, cs = trC k t c (.slice a l.length m) p ∧ RepL w P l (.slice a l.length m) := by
  cases h with
  | mk hl =>
    obtain ⟨a, m, rfl, _⟩ := hl.slice
    exact ⟨a, m, rfl, hl⟩
theorem RepsA.length {w : World} {P : Nat → Prop} {l : List Tr} {cs : List Value} (h : RepsA w P l cs) : cs.length = l.length * 8 := by
  induction h with
  | nil => rfl
  | cons h1 _ ih =>
    have := h1.length
    rw [List.length_append, List.length_cons]
    omega
theorem RepsA.mono {w w' : World} {P P' : Nat → Prop} (hb : ∀ b, P b → w'.heap[b]? = w.heap[b]?) (hP : ∀ b, P b → P' b) {l : List Tr} {cs : List Value} (h : RepsA w P l cs) : RepsA w' P' l cs := by
  induction h with
  | nil => exact .nil
  | cons h1 _ ih => exact .cons (h1.mono hb hP) ih
theorem RepsA.snoc {w : World} {P : Nat → Prop} {l : List Tr} {cs c : List Value} {n : Tr} (h : RepsA w P l cs) (hn : RepA w P n c) : RepsA w P (l ++ [n]) (cs ++ c) := by
  induction h with
  | nil => simpa using RepsA.cons hn .nil
  | cons h1 _ ih => rw [List.cons_append, List.append_assoc]; exact .cons h1 ih
theorem RepsA.anyC {w : World} {P : Nat → Prop} {l : List Tr} {cs : List Value} (h : RepsA w P l cs) : ∀ (g o : Nat), (∀ j, j < cs.length → w.cell? ⟨g, o + j, none⟩ = cs[j]?) → RepC w P g o l := by
  induction h with
  | nil => intro g o _; exact .nil
  | @cons n l c cs h1 h2 ih =>
    intro g o hc
    have h8 := h1.length
    refine .cons (cs := c) (fun j hj => ?_) h1 (ih g (o + 8) (fun j hj => ?_))
    · rw [hc j (by rw [List.length_append]; omega), List.getElem?_append_left (by omega)]
    · have := hc (8 + j) (by rw [List.length_append]; omega)
      rw [List.getElem?_append_right (by omega), h8, Nat.add_sub_cancel_left] at this
      rw [← this]
      congr 2
      omega
theorem RepsA.one {w : World} {P : Nat → Prop} {l : List Tr} {cs : List Value} (h : RepsA w P l cs) : ∀ u ∈ cs, u.oneCell' = true := by
  induction h with
  | nil => intro u hu; cases hu
  | cons h1 _ ih =>
    intro u hu
    rcases List.mem_append.1 hu with hu | hu
    · cases h1 with
      | mk hl =>
        obtain ⟨a, cap, rfl, _⟩ := hl.slice
        simp only [trC, List.mem_cons, List.not_mem_nil, or_false] at hu
        rcases hu with rfl | rfl | rfl | rfl | rfl | rfl | rfl | rfl <;> rfl
    · exact ih u hu
/-- The cells of a row, read from memory. -/
theorem RepC.cells {w : World} {P : Nat → Prop} {l : List Tr} : ∀ {g o : Nat}, RepC w P g o l → ∃ cs, RepsA w P l cs ∧ ∀ j, j < cs.length → w.cell? ⟨g, o + j, none⟩ = cs[j]? := by
  induction l with
  | nil => intro g o _; exact ⟨[], .nil, fun j hj => by simp at hj⟩
  | cons n l ih =>
    intro g o h
    cases h with
    | @cons _ _ _ _ c h1 h2 h3 =>
      obtain ⟨cs, h4, h5⟩ := ih h3
      have h8 := h2.length
      refine ⟨c ++ cs, .cons h2 h4, fun j hj => ?_⟩
      rcases Nat.lt_or_ge j 8 with h6 | h6
      · rw [List.getElem?_append_left (by omega)]; exact h1 j h6
      · rw [List.getElem?_append_right (by omega), h8]
        have := h5 (j - 8) (by rw [List.length_append] at hj; omega)
        rw [← this]
        congr 2
        omega
/-- These cells are those rules. -/
inductive RrReps (w : World) (P : Nat → Prop) : List Rr → List Value → Prop
  | nil : RrReps w P [] []
  | cons {r : Rr} {l : List Rr} {c cs : List Value} : RepA w P r.body c → RrReps w P l cs → RrReps w P (r :: l) ((Value.string (mkS r.name) :: (c ++ [.int .i64 r.pos])) ++ cs)
theorem RrReps.length {w : World} {P : Nat → Prop} {l : List Rr} {cs : List Value} (h : RrReps w P l cs) : cs.length = l.length * 10 := by
  induction h with
  | nil => rfl
  | cons h1 _ ih =>
    have := h1.length
    simp [ih, this]
    omega
theorem RrReps.mono {w w' : World} {P P' : Nat → Prop} (hb : ∀ b, P b → w'.heap[b]? = w.heap[b]?) (hP : ∀ b, P b → P' b) {l : List Rr} {cs : List Value} (h : RrReps w P l cs) : RrReps w' P' l cs := by
  induction h with
  | nil => exact .nil
  | cons h1 _ ih => exact .cons (h1.mono hb hP) ih
theorem RrReps.snoc {w : World} {P : Nat → Prop} {l : List Rr} {cs c : List Value} {r : Rr} (h : RrReps w P l cs) (hn : RepA w P r.body c) : RrReps w P (l ++ [r]) (cs ++ (Value.string (mkS r.name) :: (c ++ [.int .i64 r.pos]))) := by
  induction h with
  | nil => simpa using RrReps.cons hn .nil
  | cons h1 _ ih => rw [List.cons_append, List.append_assoc]; exact .cons h1 ih
theorem RrReps.anyR {w : World} {P : Nat → Prop} {l : List Rr} {cs : List Value} (h : RrReps w P l cs) : ∀ (g o : Nat), (∀ j, j < cs.length → w.cell? ⟨g, o + j, none⟩ = cs[j]?) → RepR w P g o l := by
  induction h with
  | nil => intro g o _; exact .nil
  | @cons x l c cs h1 h2 ih =>
    intro g o hc
    have h8 : c.length = 8 := h1.length
    have h10 : (Value.string (mkS x.name) :: (c ++ [.int .i64 x.pos])).length = 10 := by simp [h8]
    refine .cons (cs := c) (fun j hj => ?_) h1 (ih g (o + 10) (fun j hj => ?_))
    · have := hc j (by rw [List.length_append]; omega)
      rw [List.getElem?_append_left (by omega)] at this
      exact this
    · have := hc (10 + j) (by rw [List.length_append]; omega)
      rw [List.getElem?_append_right (by omega), h10, Nat.add_sub_cancel_left] at this
      rw [← this]
      congr 2
      omega
theorem RepR.cells {w : World} {P : Nat → Prop} {l : List Rr} : ∀ {g o : Nat}, RepR w P g o l → ∃ cs, RrReps w P l cs ∧ ∀ j, j < cs.length → w.cell? ⟨g, o + j, none⟩ = cs[j]? := by
  induction l with
  | nil => intro g o _; exact ⟨[], .nil, fun j hj => by simp at hj⟩
  | cons r l ih =>
    intro g o h
    cases h with
    | @cons _ _ _ c h1 h2 h3 =>
      obtain ⟨cs, h4, h5⟩ := ih h3
      have h8 := h2.length
      have h10 : (Value.string (mkS r.name) :: (c ++ [.int .i64 r.pos])).length = 10 := by simp [h8]
      refine ⟨_, .cons h2 h4, fun j hj => ?_⟩
      rcases Nat.lt_or_ge j 10 with h6 | h6
      · rw [List.getElem?_append_left (by omega)]; exact h1 j h6
      · rw [List.getElem?_append_right (by omega), h10]
        have := h5 (j - 10) (by rw [List.length_append] at hj; omega)
        rw [← this]
        congr 2
        omega
/-- A row of rules of one's own, as a grammar's slice. -/
theorem rules_own {w : World} {B : Nat} {P : Nat → Prop} {v : Value} {l : List Rr} {cs : List Value} (h : w.ownsRow B 42 10 v l.length cs) (hr : RrReps w P l cs) (hP : ∀ b, B ≤ b → b < w.heap.size → P b) : RepGr w P l v := by
  rcases h.2 with ⟨rfl, h0⟩ | ⟨g, cap, cur, rfl, h1, h2, h3, h4, h5, h6⟩
  · obtain rfl := List.eq_nil_of_length_eq_zero h0
    exact .null
  · rcases Nat.eq_zero_or_pos l.length with h0 | h0
    · obtain rfl := List.eq_nil_of_length_eq_zero h0
      exact .zero
    · refine .row (hP g h1 (Array.getElem?_eq_some_iff.1 h2).1) h0 h3 (Nat.le_trans h3 h4) (hr.anyR g 0 (fun j hj => ?_))
      rw [(cells_at h2).1, ← h6, List.getElem?_take, if_pos (by rw [← hr.length]; exact hj), Array.getElem?_toList, Nat.zero_add]
/-- A row of trees of one's own, as a node's parts. -/
theorem trees_own {w : World} {B : Nat} {P : Nat → Prop} {v : Value} {l : List Tr} {cs : List Value} (h : w.ownsRow B 40 8 v l.length cs) (hr : RepsA w P l cs) (hP : ∀ b, B ≤ b → b < w.heap.size → P b) : RepL w P l v := by
  rcases h.2 with ⟨rfl, h0⟩ | ⟨g, cap, cur, rfl, h1, h2, h3, h4, h5, h6⟩
  · obtain rfl := List.eq_nil_of_length_eq_zero h0
    exact .null
  · rcases Nat.eq_zero_or_pos l.length with h0 | h0
    · obtain rfl := List.eq_nil_of_length_eq_zero h0
      exact .zero
    · refine .row (hP g h1 (Array.getElem?_eq_some_iff.1 h2).1) h0 h3 (Nat.le_trans h3 h4) (hr.anyC g 0 (fun j hj => ?_))
      rw [(cells_at h2).1, ← h6, List.getElem?_take, if_pos (by rw [← hr.length]; exact hj), Array.getElem?_toList, Nat.zero_add]
/-- Eight cells of a list exchanged. -/
theorem set8_mid (a : List Value) (x0 x1 x2 x3 x4 x5 x6 x7 y0 y1 y2 y3 y4 y5 y6 y7 : Value) (b : List Value) {o : Nat} (ho : a.length = o) :
    ((((((((a ++ ([x0, x1, x2, x3, x4, x5, x6, x7] ++ b)).set o y0).set (o + 1) y1).set (o + 2) y2).set (o + 3) y3).set (o + 4) y4).set (o + 5) y5).set (o + 6) y6).set (o + 7) y7 = a ++ ([y0, y1, y2, y3, y4, y5, y6, y7] ++ b) := by
  subst ho
  simp [List.set_append_right]
end Go.Proofs.YtjlcoldnhbkcgaaGreatDoor
namespace Go.Proofs.YtjlcoldnhbkcgaaGreatDoor
open Go.RowKit Go.Sort

/-- These blocks hold these cells. -/
def Bks : List (Nat × Array Value × TypeId) → World → Prop
  | [], _ => True
  | (b, cs, t) :: L, W => W.heap[b]? = some (.cells cs t (0, 0)) ∧ Bks L W
theorem bks_nil (W : World) : Bks [] W := trivial
theorem Bks.below {L : List (Nat × Array Value × TypeId)} {W W' : World} (h : Bks L W) (hb : Below W.heap.size W W') : Bks L W' := by
  induction L with
  | nil => trivial
  | cons x L ih =>
    obtain ⟨b, cs, t⟩ := x
    exact ⟨(hb.block b (Array.getElem?_eq_some_iff.1 h.1).1).trans h.1, ih h.2⟩
theorem Bks.alloc {L : List (Nat × Array Value × TypeId)} {W : World} (h : Bks L W) (o : Obj) : Bks L (W.alloc o) := h.below (bal (Below.refl _ W) o)
theorem Bks.push {L : List (Nat × Array Value × TypeId)} {W : World} (h : Bks L W) (cs : Array Value) (t : TypeId) {b : Nat} (hb : W.heap.size = b) : Bks ((b, cs, t) :: L) (W.alloc (.cells cs t)) := by
  subst hb
  exact ⟨heap_alloc_new W _, h.alloc _⟩
theorem cells1 {w : World} {b : Nat} {t : TypeId} {a0 : Value} (h : w.heap[b]? = some (.cells #[a0] t (0, 0))) : w.cell? ⟨b, 0, none⟩ = some a0 ∧ b < w.heap.size := ⟨(cells_at h).1 0, (cells_at h).2.2⟩
theorem cells3 {w : World} {b : Nat} {t : TypeId} {a0 a1 a2 : Value} (h : w.heap[b]? = some (.cells #[a0, a1, a2] t (0, 0))) : w.cell? ⟨b, 0, none⟩ = some a0 ∧ w.cell? ⟨b, 1, none⟩ = some a1 ∧ w.cell? ⟨b, 2, none⟩ = some a2 ∧ b < w.heap.size := ⟨(cells_at h).1 0, (cells_at h).1 1, (cells_at h).1 2, (cells_at h).2.2⟩
theorem cells8 {w : World} {b : Nat} {t : TypeId} {a0 a1 a2 a3 a4 a5 a6 a7 : Value} (h : w.heap[b]? = some (.cells #[a0, a1, a2, a3, a4, a5, a6, a7] t (0, 0))) : w.cell? ⟨b, 0, none⟩ = some a0 ∧ w.cell? ⟨b, 1, none⟩ = some a1 ∧ w.cell? ⟨b, 2, none⟩ = some a2 ∧ w.cell? ⟨b, 3, none⟩ = some a3 ∧ w.cell? ⟨b, 4, none⟩ = some a4 ∧ w.cell? ⟨b, 5, none⟩ = some a5 ∧ w.cell? ⟨b, 6, none⟩ = some a6 ∧ w.cell? ⟨b, 7, none⟩ = some a7 ∧ b < w.heap.size :=
  ⟨(cells_at h).1 0, (cells_at h).1 1, (cells_at h).1 2, (cells_at h).1 3, (cells_at h).1 4, (cells_at h).1 5, (cells_at h).1 6, (cells_at h).1 7, (cells_at h).2.2⟩
theorem heap_set8 {w : World} {b : Nat} {t : TypeId} {a0 a1 a2 a3 a4 a5 a6 a7 : Value} (h : w.heap[b]? = some (.cells #[a0, a1, a2, a3, a4, a5, a6, a7] t (0, 0))) (u0 u1 u2 u3 u4 u5 u6 u7 : Value) :
    ((((((((w.setCell ⟨b, 0, none⟩ u0).setCell ⟨b, 1, none⟩ u1).setCell ⟨b, 2, none⟩ u2).setCell ⟨b, 3, none⟩ u3).setCell ⟨b, 4, none⟩ u4).setCell ⟨b, 5, none⟩ u5).setCell ⟨b, 6, none⟩ u6).setCell ⟨b, 7, none⟩ u7).heap[b]? = some (.cells #[u0, u1, u2, u3, u4, u5, u6, u7] t (0, 0)) := by
  have h0 : (w.setCell ⟨b, 0, none⟩ u0).heap[b]? = some (.cells #[u0, a1, a2, a3, a4, a5, a6, a7] t (0, 0)) := heap_setCell_same _ b 0 _ _ _ h
  have h1 : ((w.setCell ⟨b, 0, none⟩ u0).setCell ⟨b, 1, none⟩ u1).heap[b]? = some (.cells #[u0, u1, a2, a3, a4, a5, a6, a7] t (0, 0)) := heap_setCell_same _ b 1 _ _ _ h0
  have h2 : (((w.setCell ⟨b, 0, none⟩ u0).setCell ⟨b, 1, none⟩ u1).setCell ⟨b, 2, none⟩ u2).heap[b]? = some (.cells #[u0, u1, u2, a3, a4, a5, a6, a7] t (0, 0)) := heap_setCell_same _ b 2 _ _ _ h1
  have h3 : ((((w.setCell ⟨b, 0, none⟩ u0).setCell ⟨b, 1, none⟩ u1).setCell ⟨b, 2, none⟩ u2).setCell ⟨b, 3, none⟩ u3).heap[b]? = some (.cells #[u0, u1, u2, u3, a4, a5, a6, a7] t (0, 0)) := heap_setCell_same _ b 3 _ _ _ h2
  have h4 : (((((w.setCell ⟨b, 0, none⟩ u0).setCell ⟨b, 1, none⟩ u1).setCell ⟨b, 2, none⟩ u2).setCell ⟨b, 3, none⟩ u3).setCell ⟨b, 4, none⟩ u4).heap[b]? = some (.cells #[u0, u1, u2, u3, u4, a5, a6, a7] t (0, 0)) := heap_setCell_same _ b 4 _ _ _ h3
  have h5 : ((((((w.setCell ⟨b, 0, none⟩ u0).setCell ⟨b, 1, none⟩ u1).setCell ⟨b, 2, none⟩ u2).setCell ⟨b, 3, none⟩ u3).setCell ⟨b, 4, none⟩ u4).setCell ⟨b, 5, none⟩ u5).heap[b]? = some (.cells #[u0, u1, u2, u3, u4, u5, a6, a7] t (0, 0)) := heap_setCell_same _ b 5 _ _ _ h4
  have h6 : (((((((w.setCell ⟨b, 0, none⟩ u0).setCell ⟨b, 1, none⟩ u1).setCell ⟨b, 2, none⟩ u2).setCell ⟨b, 3, none⟩ u3).setCell ⟨b, 4, none⟩ u4).setCell ⟨b, 5, none⟩ u5).setCell ⟨b, 6, none⟩ u6).heap[b]? = some (.cells #[u0, u1, u2, u3, u4, u5, u6, a7] t (0, 0)) := heap_setCell_same _ b 6 _ _ _ h5
  have h7 : ((((((((w.setCell ⟨b, 0, none⟩ u0).setCell ⟨b, 1, none⟩ u1).setCell ⟨b, 2, none⟩ u2).setCell ⟨b, 3, none⟩ u3).setCell ⟨b, 4, none⟩ u4).setCell ⟨b, 5, none⟩ u5).setCell ⟨b, 6, none⟩ u6).setCell ⟨b, 7, none⟩ u7).heap[b]? = some (.cells #[u0, u1, u2, u3, u4, u5, u6, u7] t (0, 0)) := heap_setCell_same _ b 7 _ _ _ h6
  exact h7
theorem gset8 (w : World) (b : Nat) (j0 j1 j2 j3 j4 j5 j6 j7 : Nat) (u0 u1 u2 u3 u4 u5 u6 u7 : Value) : w.grownBy ((((((((w.setCell ⟨b, j0, none⟩ u0).setCell ⟨b, j1, none⟩ u1).setCell ⟨b, j2, none⟩ u2).setCell ⟨b, j3, none⟩ u3).setCell ⟨b, j4, none⟩ u4).setCell ⟨b, j5, none⟩ u5).setCell ⟨b, j6, none⟩ u6).setCell ⟨b, j7, none⟩ u7) (some b) :=
  (gsetk _ ⟨b, j0, none⟩ _).trans ((gsetk _ ⟨b, j1, none⟩ _).trans ((gsetk _ ⟨b, j2, none⟩ _).trans ((gsetk _ ⟨b, j3, none⟩ _).trans ((gsetk _ ⟨b, j4, none⟩ _).trans ((gsetk _ ⟨b, j5, none⟩ _).trans ((gsetk _ ⟨b, j6, none⟩ _).trans (gsetk _ ⟨b, j7, none⟩ _)))))))
theorem below_set8 {n : Nat} {a w : World} (h : Below n a w) {b : Nat} (hb : n ≤ b) (j0 j1 j2 j3 j4 j5 j6 j7 : Nat) (u0 u1 u2 u3 u4 u5 u6 u7 : Value) : Below n a ((((((((w.setCell ⟨b, j0, none⟩ u0).setCell ⟨b, j1, none⟩ u1).setCell ⟨b, j2, none⟩ u2).setCell ⟨b, j3, none⟩ u3).setCell ⟨b, j4, none⟩ u4).setCell ⟨b, j5, none⟩ u5).setCell ⟨b, j6, none⟩ u6).setCell ⟨b, j7, none⟩ u7) :=
  (((((((h.setCell hb _).setCell hb _).setCell hb _).setCell hb _).setCell hb _).setCell hb _).setCell hb _).setCell hb _
theorem heap_set8_ne {w : World} {b c : Nat} (hne : c ≠ b) (j0 j1 j2 j3 j4 j5 j6 j7 : Nat) (u0 u1 u2 u3 u4 u5 u6 u7 : Value) : ((((((((w.setCell ⟨b, j0, none⟩ u0).setCell ⟨b, j1, none⟩ u1).setCell ⟨b, j2, none⟩ u2).setCell ⟨b, j3, none⟩ u3).setCell ⟨b, j4, none⟩ u4).setCell ⟨b, j5, none⟩ u5).setCell ⟨b, j6, none⟩ u6).setCell ⟨b, j7, none⟩ u7).heap[c]? = w.heap[c]? := by
  rw [heap_setCell_other _ _ _ _ hne, heap_setCell_other _ _ _ _ hne, heap_setCell_other _ _ _ _ hne, heap_setCell_other _ _ _ _ hne, heap_setCell_other _ _ _ _ hne, heap_setCell_other _ _ _ _ hne, heap_setCell_other _ _ _ _ hne, heap_setCell_other _ _ _ _ hne]
theorem cells10 {w : World} {b : Nat} {t : TypeId} {a0 a1 a2 a3 a4 a5 a6 a7 a8 a9 : Value} (h : w.heap[b]? = some (.cells #[a0, a1, a2, a3, a4, a5, a6, a7, a8, a9] t (0, 0))) : w.cell? ⟨b, 0, none⟩ = some a0 ∧ w.cell? ⟨b, 1, none⟩ = some a1 ∧ w.cell? ⟨b, 2, none⟩ = some a2 ∧ w.cell? ⟨b, 3, none⟩ = some a3 ∧ w.cell? ⟨b, 4, none⟩ = some a4 ∧ w.cell? ⟨b, 5, none⟩ = some a5 ∧ w.cell? ⟨b, 6, none⟩ = some a6 ∧ w.cell? ⟨b, 7, none⟩ = some a7 ∧ w.cell? ⟨b, 8, none⟩ = some a8 ∧ w.cell? ⟨b, 9, none⟩ = some a9 ∧ b < w.heap.size :=
  ⟨(cells_at h).1 0, (cells_at h).1 1, (cells_at h).1 2, (cells_at h).1 3, (cells_at h).1 4, (cells_at h).1 5, (cells_at h).1 6, (cells_at h).1 7, (cells_at h).1 8, (cells_at h).1 9, (cells_at h).2.2⟩
theorem heap_set8r {w : World} {b : Nat} {t : TypeId} {a0 a1 a2 a3 a4 a5 a6 a7 a8 a9 : Value} (h : w.heap[b]? = some (.cells #[a0, a1, a2, a3, a4, a5, a6, a7, a8, a9] t (0, 0))) (u0 u1 u2 u3 u4 u5 u6 u7 : Value) :
    ((((((((w.setCell ⟨b, 1, none⟩ u0).setCell ⟨b, 2, none⟩ u1).setCell ⟨b, 3, none⟩ u2).setCell ⟨b, 4, none⟩ u3).setCell ⟨b, 5, none⟩ u4).setCell ⟨b, 6, none⟩ u5).setCell ⟨b, 7, none⟩ u6).setCell ⟨b, 8, none⟩ u7).heap[b]? = some (.cells #[a0, u0, u1, u2, u3, u4, u5, u6, u7, a9] t (0, 0)) := by
  have h0 : (w.setCell ⟨b, 1, none⟩ u0).heap[b]? = some (.cells #[a0, u0, a2, a3, a4, a5, a6, a7, a8, a9] t (0, 0)) := heap_setCell_same _ b 1 _ _ _ h
  have h1 : ((w.setCell ⟨b, 1, none⟩ u0).setCell ⟨b, 2, none⟩ u1).heap[b]? = some (.cells #[a0, u0, u1, a3, a4, a5, a6, a7, a8, a9] t (0, 0)) := heap_setCell_same _ b 2 _ _ _ h0
  have h2 : (((w.setCell ⟨b, 1, none⟩ u0).setCell ⟨b, 2, none⟩ u1).setCell ⟨b, 3, none⟩ u2).heap[b]? = some (.cells #[a0, u0, u1, u2, a4, a5, a6, a7, a8, a9] t (0, 0)) := heap_setCell_same _ b 3 _ _ _ h1
  have h3 : ((((w.setCell ⟨b, 1, none⟩ u0).setCell ⟨b, 2, none⟩ u1).setCell ⟨b, 3, none⟩ u2).setCell ⟨b, 4, none⟩ u3).heap[b]? = some (.cells #[a0, u0, u1, u2, u3, a5, a6, a7, a8, a9] t (0, 0)) := heap_setCell_same _ b 4 _ _ _ h2
  have h4 : (((((w.setCell ⟨b, 1, none⟩ u0).setCell ⟨b, 2, none⟩ u1).setCell ⟨b, 3, none⟩ u2).setCell ⟨b, 4, none⟩ u3).setCell ⟨b, 5, none⟩ u4).heap[b]? = some (.cells #[a0, u0, u1, u2, u3, u4, a6, a7, a8, a9] t (0, 0)) := heap_setCell_same _ b 5 _ _ _ h3
  have h5 : ((((((w.setCell ⟨b, 1, none⟩ u0).setCell ⟨b, 2, none⟩ u1).setCell ⟨b, 3, none⟩ u2).setCell ⟨b, 4, none⟩ u3).setCell ⟨b, 5, none⟩ u4).setCell ⟨b, 6, none⟩ u5).heap[b]? = some (.cells #[a0, u0, u1, u2, u3, u4, u5, a7, a8, a9] t (0, 0)) := heap_setCell_same _ b 6 _ _ _ h4
  have h6 : (((((((w.setCell ⟨b, 1, none⟩ u0).setCell ⟨b, 2, none⟩ u1).setCell ⟨b, 3, none⟩ u2).setCell ⟨b, 4, none⟩ u3).setCell ⟨b, 5, none⟩ u4).setCell ⟨b, 6, none⟩ u5).setCell ⟨b, 7, none⟩ u6).heap[b]? = some (.cells #[a0, u0, u1, u2, u3, u4, u5, u6, a8, a9] t (0, 0)) := heap_setCell_same _ b 7 _ _ _ h5
  have h7 : ((((((((w.setCell ⟨b, 1, none⟩ u0).setCell ⟨b, 2, none⟩ u1).setCell ⟨b, 3, none⟩ u2).setCell ⟨b, 4, none⟩ u3).setCell ⟨b, 5, none⟩ u4).setCell ⟨b, 6, none⟩ u5).setCell ⟨b, 7, none⟩ u6).setCell ⟨b, 8, none⟩ u7).heap[b]? = some (.cells #[a0, u0, u1, u2, u3, u4, u5, u6, u7, a9] t (0, 0)) := heap_setCell_same _ b 8 _ _ _ h6
  exact h7
/-- The cells of a node of that kind whose parts are a block's. -/
def ndK (k : Int) (b m : Nat) : List Value := [.int .i64 k, .string ⟨#[]⟩, .int .u64 0, .int .u64 0, .int .u64 0, .int .u64 0, .slice (some ⟨b, 0, none⟩) m m, .int .i64 0]
theorem ndK_is (k : Int) (b m : Nat) : ndK k b m = trC k [] 0 (.slice (some ⟨b, 0, none⟩) m m) 0 := by
  unfold ndK trC
  simp only [wd_zero']
  rfl
/-- A node of one part, or two, that lie in one block. -/
theorem rep_one {w : World} {n : Tr} {cs : List Value} {b : Nat} (k : Int) (hb : w.heap[b]? = some (.cells cs.toArray 40 (0, 0))) (hr : RepA w (fun x => x < w.heap.size) n cs) : RepA w (fun x => x < w.heap.size) (.mk k [] 0 [n] 0) (ndK k b 1) := by
  rw [ndK_is]
  refine .mk (RepL.row (l := [n]) (cells_at hb).2.2 (by simp) (by simp) (by simp [maxLen]) (.cons (cs := cs) (fun j _ => ?_) hr .nil))
  rw [(cells_at hb).1, Nat.zero_add]
  simp
theorem rep_two {w : World} {n m : Tr} {cs ds : List Value} {b : Nat} (k : Int) (hb : w.heap[b]? = some (.cells (cs ++ ds).toArray 40 (0, 0))) (hr : RepA w (fun x => x < w.heap.size) n cs) (hr2 : RepA w (fun x => x < w.heap.size) m ds) : RepA w (fun x => x < w.heap.size) (.mk k [] 0 [n, m] 0) (ndK k b 2) := by
  rw [ndK_is]
  have h8 := hr.length
  refine .mk (RepL.row (l := [n, m]) (cells_at hb).2.2 (by simp) (by simp) (by simp [maxLen]) (.cons (cs := cs) (fun j hj => ?_) hr (.cons (cs := ds) (fun j hj => ?_) hr2 .nil)))
  · rw [(cells_at hb).1, Nat.zero_add]
    simp [List.getElem?_append_left (show j < cs.length by omega)]
  · rw [(cells_at hb).1]
    simp [List.getElem?_append_right (show cs.length ≤ 0 + 8 + j by omega), h8]
end Go.Proofs.YtjlcoldnhbkcgaaGreatDoor
namespace Go.Proofs.YtjlcoldnhbkcgaaGreatDoor
open Go.RowKit Go.Sort

theorem gbulk {w : World} {P : Nat → Prop} {gs : List Ru} {v : Value} (h : GRep w P gs v) : ∃ a cap, v = .slice a gs.length cap := by
  obtain ⟨a, cap, e, _⟩ := h.anyG.slice
  rw [List.length_map] at e
  exact ⟨a, cap, e⟩
theorem small5_bulk : Rr.bulks (small5G.map Ru.rr) ≤ 1000000000 := by
  simp [small5G, Ru.rr, Nd.tr, Nd.trs, Rr.bulks, Rr.bulk, Tr.bulk, Tr.bulks]
end Go.Proofs.YtjlcoldnhbkcgaaGreatDoor
