/- The walk of PrintRules. -/
import Derived.Test.YteohgaheockepaaDoorG38
namespace Go.Proofs.YteohgaheockepaaDoor
open Go.RowKit Go.Sort

/-- What Expr answers of a tree whose text fits. -/
def exV (n : Tr) : List UInt8 := if (txT n).length + 6 ≤ 8192 then txT n else []
theorem expr_val {n : Tr} (h : OkT n) (hf : Fit n) {x : Nat ⊕ List UInt8} (hx : PrRes [⟨[97], n, 0⟩] x) : exprOf x = exV n := by
  unfold exV
  split
  · next h8 => exact expr_is h hf h8 hx
  · next h8 =>
    rcases expr_nil hx with e | ⟨_, _, _, e⟩
    · exact e
    · exact absurd e h8
theorem pexpr_val {n : Tr} {c : List Value} {P : Nat → Prop} (w : World) (hg : Laid w) (hr : RepA w P n c) (hP : ∀ b, P b → b < w.heap.size) (hb : n.bulk ≤ 999999999) (h : OkT n) (hf : Fit n) : Calls Tryd.prog 10 #[.agg c.toArray] w (Ans (.string ⟨(exV n).toArray⟩) w) := by
  refine (pexpr_any w hg hr hP hb).mono ?_
  rintro e w' ⟨⟨r, hr, rfl⟩, hb⟩
  rw [expr_val h hf hr]
  exact ⟨rfl, hb⟩
/-- One rule's own row. -/
theorem RepR.at {w : World} {P : Nat → Prop} {l : List Rr} : ∀ {g o : Nat}, RepR w P g o l → ∀ {i : Nat} {x : Rr}, l[i]? = some x → RepR w P g (o + i * 10) [x] := by
  induction l with
  | nil => intro g o _ i x hi; simp at hi
  | cons m l ih =>
    intro g o h i x hi
    cases h with
    | cons h1 h2 h3 =>
      cases i with
      | zero =>
        simp at hi
        subst hi
        rw [Nat.zero_mul, Nat.add_zero]
        exact .cons h1 h2 .nil
      | succ i =>
        have := ih h3 (by simpa using hi)
        rw [show o + 10 + i * 10 = o + (i + 1) * 10 by omega] at this
        exact this
theorem one_bulk {g : List Rr} {y : Rr} (h : y ∈ g) : Rr.bulks [y] ≤ Rr.bulks g := by
  induction g with
  | nil => cases h
  | cons x l ih =>
    simp only [Rr.bulks, Nat.add_zero] at ih ⊢
    rcases List.mem_cons.1 h with rfl | h
    · omega
    · have := ih h; omega
set_option maxRecDepth 100000 in
set_option maxHeartbeats 6400000 in
theorem prules_any {g : List Rr} {v : Value} {P : Nat → Prop} (w : World) (hg : Laid w) (hr : RepGr w P g v) (hP : ∀ b, P b → b < w.heap.size) (hb : Rr.bulks g ≤ 1048576) : Calls Tryd.prog 4 #[.agg #[v]] w (Ans (.bool true) w) := by
  obtain ⟨n, hn⟩ : ∃ n, n = g.length := ⟨_, rfl⟩
  obtain ⟨a, cap, rfl, hcap, hmax⟩ := hr.slice
  have HL := Lib.hid hg
  have HR := Lib.hid hr
  have HP := Lib.hid hP
  have HB := Lib.hid hb
  rw [← hn] at HR hcap ⊢
  have HN := Lib.hid hn
  have hm1 := cell_alloc_lt
  clear hg hr hP hb hmax hn
  go_enter Tryd.func4, Tryd.ntmps4
  repeat (first | go_values | go_skip | go_guarded | go_step | go_upon)
  refine (small5_any _ (HL.out.below (by repeat (first | exact Below.refl _ _ | assumption | refine bal ?_ _ | refine bdr ?_ | refine bdrn ?_ _ | (refine bset ?_ (by first | exact Nat.le_refl _ | (simp; done) | (simp; omega) | omega) _) | refine bstep ?_ (by assumption))) HL.out.pos)).mono ?_
  rintro e w1 ⟨rfl, hb1⟩
  obtain ⟨hc1, hf1⟩ := bcell hb1
  have hz1 := hb1.size
  try simp at hz1
  have q1_0 : w.heap.size < w1.heap.size := by omega
  dsimp only
  have hw1 : Below w.heap.size w w1 := (by repeat (first | exact Below.refl _ _ | assumption | refine bal ?_ _ | refine bdr ?_ | refine bdrn ?_ _ | (refine bset ?_ (by first | exact Nat.le_refl _ | (simp; done) | (simp; omega) | omega) _) | refine bstep ?_ (by assumption)))
  repeat (first | go_values | go_skip | go_guarded | go_step | go_upon)
  refine (print_any _ (HL.out.below hw1 HL.out.pos) (HR.out.on HP.out hw1) (fun b hb => Nat.lt_of_lt_of_le (HP.out b hb) hw1.size) (by have := HB.out; omega)).mono ?_
  rintro e w2 ⟨⟨r, hr2, rfl⟩, hb2⟩
  have hw2 : Below w.heap.size w w2 := hw1.trans (hb2.mono hw1.size)
  have c2 : w2.cell? ⟨w.heap.size, 0, none⟩ = some (.slice a n cap) := (hb2.cell (p := ⟨w.heap.size, 0, none⟩) q1_0).trans ((hb1.cell (p := ⟨w.heap.size, 0, none⟩) (by simp)).trans (by simp))
  have q2 : w.heap.size < w2.heap.size := Nat.lt_of_lt_of_le q1_0 hb2.size
  cases r with
  | inl c =>
    clear hr2
    dsimp only [prVal]
    repeat (first | go_values | go_skip | go_guarded | go_step | go_upon)
    go_ret
    exact ⟨rfl, (by repeat (first | exact Below.refl _ _ | assumption | refine bal ?_ _ | refine bdr ?_ | refine bdrn ?_ _ | (refine bset ?_ (by first | exact Nat.le_refl _ | (simp; done) | (simp; omega) | omega) _) | refine bstep ?_ (by assumption)))⟩
  | inr s =>
    have HF := Lib.hid (res_fit hr2)
    obtain ⟨rfl, _, h8, _⟩ := res_text hr2
    have H8 := Lib.hid h8
    clear hr2 h8
    dsimp only [prVal]
    repeat (first | go_values | go_skip | go_guarded | go_step | go_upon)
    go_loopw [6, 7] (fun s tt wr => ∃ j : Nat, tt = .int .i64 (j : Int) ∧ s = .string ⟨(txG (g.take j)).toArray⟩ ∧ j ≤ n ∧ Below w2.heap.size w2 wr) (fun _ tt _ => n - (intOf tt).toNat)
    case atStart => exact ⟨0, rfl, rfl, Nat.zero_le _, Below.refl _ _⟩
    case round =>
      obtain ⟨j, rfl, rfl, hj, hb⟩ := hrel
      have hw : Below w.heap.size w wr := hw2.trans (hb.mono hw2.size)
      have HW := Lib.hid hw
      have cr : wr.cell? ⟨w.heap.size, 0, none⟩ = some (.slice a n cap) := (hb.cell (p := ⟨w.heap.size, 0, none⟩) q2).trans c2
      have qr : w.heap.size < wr.heap.size := Nat.lt_of_lt_of_le q2 hb.size
      have hz := hw.size
      have HBr := Lib.hid hb
      clear hb hw
      by_cases hlt : j < n
      · have hlt2 : j < g.length := by rw [← HN.out]; exact hlt
        obtain ⟨y, hy⟩ : ∃ y, g[j]? = some y := ⟨g[j], List.getElem?_eq_getElem hlt2⟩
        have hmem := List.mem_of_getElem? hy
        rcases HR.out.parts with ⟨e, _⟩ | ⟨e, _⟩ | ⟨gg, o, cap', e, hgg, _, hcp, hmx, hr⟩
        · rw [e] at hlt2; simp at hlt2
        · rw [e] at hlt2; simp at hlt2
        · obtain rfl : a = some ⟨gg, o, none⟩ := by injection e
          have d1 : decide ((j : Int) < n) = true := by simpa using hlt
          have k5 : IntKind.i64.wrap ((j : Int) + 1) = (j : Int) + 1 := by rw [IntKind.wrap_i64]; unfold maxLen at hmx; omega
          have HPR := Lib.hid (fun (w' : World) (h : Below w.heap.size w w') => print_any w' (HL.out.below h HL.out.pos) (RepGr.row (l := [y]) (cap := cap - j) hgg (by simp) (by simp; omega) (by simp [maxLen]) (RepR.at (hr.mono (w' := w') (P' := P) (fun b' hb' => h.block b' (HP.out b' hb')) (fun _ h => h) hgg) hy)) (fun b hb => Nat.lt_of_lt_of_le (HP.out b hb) h.size) (Nat.le_trans (one_bulk hmem) (by have := HB.out; omega)))
          have hoky := HF.out y hmem
          have hu8 : (txU y).length ≤ 8192 := Nat.le_trans (txG_mem hmem) H8.out
          have hbky : y.body.bulk ≤ 999999999 := by have h1 := one_bulk hmem; have h2 := HB.out; simp only [Rr.bulks, Rr.bulk] at h1; omega
          have lgg : gg < w.heap.size := HP.out gg hgg
          repeat (first | go_values | go_skip | go_guarded | go_step | go_upon)
          refine (HPR.out _ HW.out).mono ?_
          rintro e w3 ⟨⟨r3, hr3, rfl⟩, hb3⟩
          obtain rfl := res_one hoky.1 hoky.2 hu8 hr3
          have hw3 : Below w.heap.size w w3 := HW.out.trans (hb3.mono hz)
          have c3 : w3.cell? ⟨w.heap.size, 0, none⟩ = some (.slice (some ⟨gg, o, none⟩) g.length cap) := (hb3.cell (p := ⟨w.heap.size, 0, none⟩) qr).trans cr
          obtain ⟨k1, t1, x1, sa, sn, sc, p1, l1, eb, q0, _, a9, a0, a1, a2, a3, a4, a5, a6, a7, _⟩ := (hr.mono (w' := w3) (P' := P) (fun b' hb' => hw3.block b' (HP.out b' hb')) (fun _ h => h) hgg).get hy
          have HX := Lib.hid (fun (d : Nat) (os : Array Obj) => pexpr_val (grow (redrawn w3 d) os) (HL.out.below (hw3.trans ((below_regrown w3 d os).mono hw3.size)) HL.out.pos) (q0.mono (w' := grow (redrawn w3 d) os) (fun b' hb' => (below_regrown w3 d os).block b' (Nat.lt_of_lt_of_le (HP.out b' hb') hw3.size)) (fun _ h => h)) (fun b' hb' => Nat.lt_of_lt_of_le (HP.out b' hb') (hw3.trans ((below_regrown w3 d os).mono hw3.size)).size) hbky hoky.1.2 hoky.2)
          dsimp only [trC] at HX
          have hz3 := hw3.size
          have hz3b := hb3.size
          have HTK := Lib.hid (take_snocR hy)
          have HW3 := Lib.hid hw3
          have HB3 := Lib.hid (hb3.mono (Nat.le_trans HBr.out.size (Nat.le_refl _)))
          clear eb hr3 hr hy hmem hoky q0 cr c2 hb3 hw3
          have hms := mkS_size y.name
          have hnl : y.name.length ≤ 8192 := by have := hu8; simp [txU] at this; omega
          have hxs : (⟨(exV y.body).toArray⟩ : ByteArray).size = (exV y.body).length := by rw [← bl_length, bl_mk]
          have hxl : (exV y.body).length ≤ 8192 := by unfold exV; split; omega; simp
          have hl1 := txG_take g j
          have hs1 : (⟨(txG (g.take j)).toArray⟩ : ByteArray).size = (txG (g.take j)).length := by rw [← bl_length, bl_mk]
          have hs2 : (⟨(txU y).toArray⟩ : ByteArray).size = (txU y).length := by rw [← bl_length, bl_mk]
          have n4 : ¬ 9223372036854775807 < (txG (g.take j)).length + (txU y).length := by have := H8.out; omega
          have hA : (⟨(txG (g.take j)).toArray⟩ : ByteArray) ++ ⟨(txU y).toArray⟩ = ⟨(txG (g.take (j + 1))).toArray⟩ := by rw [bytes_app, HTK.out, txG_snoc]
          have n1 : ¬ 9223372036854775807 < y.name.length + 4 := by omega
          have n2 : ¬ 9223372036854775807 < y.name.length + 4 + (exV y.body).length := by omega
          have n3 : ¬ 9223372036854775807 < y.name.length + 4 + (exV y.body).length + 1 := by omega
          dsimp only [prVal]
          by_cases h6 : (txT y.body).length + 6 ≤ 8192
          · have hE : mkS y.name ++ (⟨#[32, 60, 45, 32]⟩ : ByteArray) ++ ⟨(exV y.body).toArray⟩ ++ ⟨#[10]⟩ = ⟨(txU y).toArray⟩ := by
              rw [exV, if_pos h6]
              apply ByteArray.ext
              simp [mkS, txU]
            repeat (first | go_values | go_skip | go_guarded | go_step | go_upon)
            have hG := grown_cell
            have g5_0 : w.heap.size < w3.heap.size := by omega
            have g5_1 : gg < w3.heap.size := by omega
            refine wp_region_qb (by kernel_rfl) (by kernel_rfl) ?_
            repeat (quiet_step (first | (with_reducible exact ans_quiet (HX.out _ _))))
            refine wpQuiet_nil ?_
            intro w5 hb5
            clear hG
            obtain ⟨hc5, hf5⟩ := bcell hb5
            have hz5 := hb5.size
            try simp at hz5
            have q5_0 : w.heap.size < w5.heap.size := by omega
            have q5_1 : gg < w5.heap.size := by omega
            repeat (first | go_values | go_skip | go_guarded | go_step | go_upon)
            exact ⟨⟨j + 1, by go_num, rfl, by omega, HBr.out.trans (HB3.out.trans (hb5.mono (Nat.le_trans HBr.out.size hz3b)))⟩, by simp [intOf]; omega⟩
          · have hE : mkS y.name ++ (⟨#[32, 60, 45, 32]⟩ : ByteArray) ++ ⟨(exV y.body).toArray⟩ ++ ⟨#[10]⟩ = ⟨(y.name ++ [32, 60, 45, 32, 10]).toArray⟩ := by
              rw [exV, if_neg h6]
              apply ByteArray.ext
              simp [mkS]
            have hL : 8152 ≤ (txU y).length := by simp [txU]; omega
            have d2 : decide (((txU y).length : Int) < 8152) = false := by simp; omega
            have hne : ¬ txU y = y.name ++ [32, 60, 45, 32, 10] := fun e => h6 (by
              have e2 : (txU y).length = (y.name ++ [32, 60, 45, 32, 10]).length := by rw [← e]
              have e3 : (txU y).length = y.name.length + (txT y.body).length + 5 := by simp [txU]; omega
              have e4 : (y.name ++ [32, 60, 45, 32, 10]).length = y.name.length + 5 := by simp
              omega)
            repeat (first | go_values | go_skip | go_guarded | go_step | go_upon)
            have hG := grown_cell
            have g5_0 : w.heap.size < w3.heap.size := by omega
            have g5_1 : gg < w3.heap.size := by omega
            refine wp_region_qb (by kernel_rfl) (by kernel_rfl) ?_
            repeat (quiet_step (first | (with_reducible exact ans_quiet (HX.out _ _))))
            refine wpQuiet_nil ?_
            intro w5 hb5
            clear hG
            obtain ⟨hc5, hf5⟩ := bcell hb5
            have hz5 := hb5.size
            try simp at hz5
            have q5_0 : w.heap.size < w5.heap.size := by omega
            have q5_1 : gg < w5.heap.size := by omega
            repeat (first | go_values | go_skip | go_guarded | go_step | go_upon)
            exact ⟨⟨j + 1, by go_num, rfl, by omega, HBr.out.trans (HB3.out.trans (hb5.mono (Nat.le_trans HBr.out.size hz3b)))⟩, by simp [intOf]; omega⟩
      · have d1 : decide (j < n) = false := by simpa using hlt
        have hjn : j = g.length := by rw [← HN.out]; omega
        have hA : (⟨(txG (g.take j)).toArray⟩ : ByteArray) = ⟨(txG g).toArray⟩ := by rw [hjn, List.take_length]
        clear hjn
        repeat (first | go_values | go_skip | go_guarded | go_step | go_upon)
        go_ret
        exact ⟨rfl, HW.out⟩
end Go.Proofs.YteohgaheockepaaDoor
