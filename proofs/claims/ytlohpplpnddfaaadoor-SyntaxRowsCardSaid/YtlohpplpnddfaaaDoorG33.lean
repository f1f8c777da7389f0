/- The walk of SyntaxRows. -/
import Derived.Test.YtlohpplpnddfaaaDoorG21
import Derived.Test.YtlohpplpnddfaaaDoorG22
import Derived.Deep.DrawnRows
import Derived.Deep.RegionHeld3
namespace Go.Proofs.YtlohpplpnddfaaaDoor
open Go.RowKit Go.Sort

attribute [local go_sem ↓] Go.wp_at_zero Go.wp_at_succ

theorem RuReps.one {w : World} {P : Nat → Prop} {l : List Ru} {cs : List Value} (h : RuReps w P l cs) : ∀ u ∈ cs, u.oneCell' = true := by
  induction h with
  | nil => intro u hu; cases hu
  | cons h1 h2 ih =>
    intro u hu
    rcases List.mem_append.1 hu with hu | hu
    · obtain ⟨a, t, y, v, l', e1, e2, h3⟩ := h1.form
      obtain ⟨sa, sn, sc, rfl⟩ := h3.slice
      subst e2
      simp [ndC] at hu
      rcases hu with rfl | rfl | rfl | rfl | rfl | rfl | rfl | rfl | rfl | rfl <;> simp [Value.oneCell']
    · exact ih u hu
theorem RuReps.append {w : World} {P : Nat → Prop} {l m : List Ru} {cs ds : List Value} (h : RuReps w P l cs) (h2 : RuReps w P m ds) : RuReps w P (l ++ m) (cs ++ ds) := by
  induction h with
  | nil => exact h2
  | cons h1 _ ih =>
    rw [List.cons_append, List.append_assoc]
    exact .cons h1 ih
theorem rule_news {w : World} {g n : Nat} {cur : Array Value} {cs : List Value} {t : TypeId} (h : w.heap[g]? = some (.cells cur t (0, 0))) (ht : cur.toList.take n = cs) : ∀ j u, cs[j]? = some u → w.cell? ((⟨g, 0, none⟩ : Addr).add j) = some u := by
  subst ht
  intro j u hu
  refine World.news_of_block h j u ?_
  rw [List.getElem?_take] at hu
  split at hu
  · exact hu
  · cases hu
theorem owns_block5 {w : World} {B g n cap : Nat} {xs : List Value} (h : w.ownsRow B 69 10 (.slice (some ⟨g, 0, none⟩) n cap) n xs) : B ≤ g ∧ g < w.heap.size := h.lt g rfl
theorem own_ne {b gg n cap : Nat} (h : b ≠ gg) : some b ≠ (Value.slice (some ⟨gg, 0, none⟩) n cap).ownBlock := fun e => h (Option.some.inj e)
/-- A row of rules of the call's own, as a grammar. -/
theorem owns_rep {w : World} {B g cap n : Nat} {gs : List Ru} {cs : List Value} {P : Nat → Prop} (h : w.ownsRow B 69 10 (.slice (some ⟨g, 0, none⟩) n cap) n cs) (hn : gs.length = n) (h0 : 0 < n) (hr : RuReps w P gs cs) : GRep w (fun b => P b ∨ b = g) gs (.slice (some ⟨g, 0, none⟩) n cap) := by
  subst hn
  rcases h.2 with ⟨h1, _⟩ | ⟨g', cap', cur, h1, h2, h3, h4, h5, h6, h7⟩
  · cases h1
  · cases h1
    exact .inr ⟨g, cap, cur, cs, rfl, .inr rfl, h3, h4, Nat.le_trans h4 h5, h0, h7, hr.mono (fun _ _ => rfl) (fun b hb => .inl hb)⟩
theorem GRep.len2 {w : World} {P : Nat → Prop} {gs : List Ru} {v : Value} (h : GRep w P gs v) : ∃ a cap m, m = gs.length ∧ v = .slice a m cap := by
  obtain ⟨a, cap, h⟩ := h.len
  exact ⟨a, cap, _, rfl, h⟩
set_option maxRecDepth 100000 in
set_option maxHeartbeats 6400000 in
theorem row_w (S T : ByteArray) (w : World) (hg : Laid w) (hs : S.size ≤ 140737488351232) (ht : T.size ≤ 140737488351232) : Calls Tryd.prog 15 #[.string S, .string T] w (Ans (.bool true) w) := by
  have HL := Lib.hid hg
  have HL1 := Lib.hid (fun (W : World) (h : Below w.heap.size w W) => hg.below h hg.pos)
  have hm1 := cell_alloc_lt
  clear hg
  by_cases hbig : 8192 < S.size
  · have d1 : decide ((8192 : Int) < S.size) = true := by simp; omega
    go_enter Tryd.func15, Tryd.ntmps15
    repeat (first | go_values | go_skip | go_guarded | go_step | go_upon)
    refine (small4_any _ HL.out).mono ?_
    rintro e w1 ⟨rfl, hb1⟩
    obtain ⟨hc1, hf1⟩ := bcell hb1
    have hz1 := hb1.size
    try simp at hz1
    dsimp only
    repeat (first | go_values | go_skip | go_guarded | go_step | go_upon)
    go_ret
    exact ⟨rfl, (by repeat (first | exact Below.refl _ _ | assumption | refine bal ?_ _ | refine bdr ?_ | refine bdrn ?_ _ | (refine bset ?_ (by first | exact Nat.le_refl _ | (simp; done) | (simp; omega) | omega) _) | refine bstep ?_ (by assumption)))⟩
  have d1 : decide ((8192 : Int) < S.size) = false := by simp; omega
  by_cases hbig2 : 8192 < T.size
  · have d2 : decide ((8192 : Int) < T.size) = true := by simp; omega
    go_enter Tryd.func15, Tryd.ntmps15
    repeat (first | go_values | go_skip | go_guarded | go_step | go_upon)
    refine (small4_any _ HL.out).mono ?_
    rintro e w1 ⟨rfl, hb1⟩
    obtain ⟨hc1, hf1⟩ := bcell hb1
    have hz1 := hb1.size
    try simp at hz1
    dsimp only
    repeat (first | go_values | go_skip | go_guarded | go_step | go_upon)
    go_ret
    exact ⟨rfl, (by repeat (first | exact Below.refl _ _ | assumption | refine bal ?_ _ | refine bdr ?_ | refine bdrn ?_ _ | (refine bset ?_ (by first | exact Nat.le_refl _ | (simp; done) | (simp; omega) | omega) _) | refine bstep ?_ (by assumption)))⟩
  have d2 : decide ((8192 : Int) < T.size) = false := by simp; omega
  have ks1 : S.size ≤ 140737488355328 := by omega
  have ks2 : T.size ≤ 140737488355328 := by omega
  have hS8 : S.size ≤ 8192 := by omega
  have hT8 : T.size ≤ 8192 := by omega
  clear hbig hbig2
  go_enter Tryd.func15, Tryd.ntmps15
  repeat (first | go_values | go_skip | go_guarded | go_step | go_upon)
  refine (small4_any _ HL.out).mono ?_
  rintro e w1 ⟨rfl, hb1⟩
  obtain ⟨hc1, hf1⟩ := bcell hb1
  have hz1 := hb1.size
  try simp at hz1
  dsimp only
  repeat (first | go_values | go_skip | go_guarded | go_step | go_upon)
  refine (syn_any _ _ (HL1.out _ (by repeat (first | exact Below.refl _ _ | assumption | refine bal ?_ _ | refine bdr ?_ | refine bdrn ?_ _ | (refine bset ?_ (by first | exact Nat.le_refl _ | (simp; done) | (simp; omega) | omega) _) | refine bstep ?_ (by assumption)))) ks1).mono ?_
  rintro e w2 ⟨hb2, r1, hr1, hp1⟩
  obtain ⟨hc2, hf2⟩ := bcell hb2
  have hz2 := hb2.size
  have HR1 := Lib.hid hr1
  clear hr1
  cases r1 with
  | inl er =>
    obtain ⟨c, x⟩ := er
    obtain ⟨p, rfl, _, _⟩ := hp1
    dsimp only
    repeat (first | go_values | go_skip | go_guarded | go_step | go_upon)
    refine (syn_any _ _ (HL1.out _ (by repeat (first | exact Below.refl _ _ | assumption | refine bal ?_ _ | refine bdr ?_ | refine bdrn ?_ _ | (refine bset ?_ (by first | exact Nat.le_refl _ | (simp; done) | (simp; omega) | omega) _) | refine bstep ?_ (by assumption)))) ks2).mono ?_
    rintro e w3 ⟨hb3, r2, hr2, hp2⟩
    obtain ⟨hc3, hf3⟩ := bcell hb3
    have hz3 := hb3.size
    clear hr2
    cases r2 with
    | inl er =>
      obtain ⟨c2, x2⟩ := er
      obtain ⟨p2, rfl, _, _⟩ := hp2
      dsimp only
      repeat (first | go_values | go_skip | go_guarded | go_step | go_upon)
      go_ret
      exact ⟨rfl, (by repeat (first | exact Below.refl _ _ | assumption | refine bal ?_ _ | refine bdr ?_ | refine bdrn ?_ _ | (refine bset ?_ (by first | exact Nat.le_refl _ | (simp; done) | (simp; omega) | omega) _) | refine bstep ?_ (by assumption)))⟩
    | inr b =>
      obtain ⟨v2, rfl, hG2⟩ := hp2
      obtain ⟨vb, bcap, rfl⟩ := hG2.len
      clear hG2
      dsimp only
      repeat (first | go_values | go_skip | go_guarded | go_step | go_upon)
      go_ret
      exact ⟨rfl, (by repeat (first | exact Below.refl _ _ | assumption | refine bal ?_ _ | refine bdr ?_ | refine bdrn ?_ _ | (refine bset ?_ (by first | exact Nat.le_refl _ | (simp; done) | (simp; omega) | omega) _) | refine bstep ?_ (by assumption)))⟩
  | inr a =>
    obtain ⟨v, rfl, hG⟩ := hp1
    obtain ⟨va, vcap, m, hm, rfl⟩ := hG.len2
    have HM := Lib.hid hm
    have HG := Lib.hid hG
    clear hG hm
    dsimp only
    repeat (first | go_values | go_skip | go_guarded | go_step | go_upon)
    refine (syn_any _ _ (HL1.out _ (by repeat (first | exact Below.refl _ _ | assumption | refine bal ?_ _ | refine bdr ?_ | refine bdrn ?_ _ | (refine bset ?_ (by first | exact Nat.le_refl _ | (simp; done) | (simp; omega) | omega) _) | refine bstep ?_ (by assumption)))) ks2).mono ?_
    rintro e w3 ⟨hb3, r2, hr2, hp2⟩
    obtain ⟨hc3, hf3⟩ := bcell hb3
    have hz3 := hb3.size
    simp only [World.size_alloc] at hz3
    have HR2 := Lib.hid hr2
    clear hr2
    cases r2 with
    | inl er =>
      obtain ⟨c2, x2⟩ := er
      obtain ⟨p2, rfl, _, _⟩ := hp2
      dsimp only
      repeat (first | go_values | go_skip | go_guarded | go_step | go_upon)
      go_ret
      exact ⟨rfl, (by repeat (first | exact Below.refl _ _ | assumption | refine bal ?_ _ | refine bdr ?_ | refine bdrn ?_ _ | (refine bset ?_ (by first | exact Nat.le_refl _ | (simp; done) | (simp; omega) | omega) _) | refine bstep ?_ (by assumption)))⟩
    | inr b =>
      obtain ⟨v2, rfl, hG2⟩ := hp2
      obtain ⟨vb, bcap, n, hn, rfl⟩ := hG2.len2
      have HN := Lib.hid hn
      have HG2 := Lib.hid hG2
      clear hG2 hn
      have y4 : w3.cell? ⟨w2.heap.size, 0, none⟩ = some (.slice va m vcap) := (hc3 _ _ (by simp)).trans (by simp)
      have q4 : w2.heap.size < w3.heap.size := by omega
      by_cases hsum : 8192 < S.size + T.size + 1
      · have d3 : decide ((8192 : Int) < (S.size : Int) + (T.size : Int) + 1) = true := by simp; omega
        dsimp only
        repeat (first | go_values | go_skip | go_guarded | go_step | go_upon)
        go_ret
        exact ⟨rfl, (by repeat (first | exact Below.refl _ _ | assumption | refine bal ?_ _ | refine bdr ?_ | refine bdrn ?_ _ | (refine bset ?_ (by first | exact Nat.le_refl _ | (simp; done) | (simp; omega) | omega) _) | refine bstep ?_ (by assumption)))⟩
      have d3 : decide ((8192 : Int) < (S.size : Int) + (T.size : Int) + 1) = false := by simp; omega
      have ha0 : 0 < m := by rw [HM.out]; exact HR1.out.pos
      have hb0 : 0 < n := by rw [HN.out]; exact HR2.out.pos
      have ha6 : m ≤ 64 := by rw [HM.out]; exact HR1.out.le
      have hb6 : n ≤ 64 := by rw [HN.out]; exact HR2.out.le
      by_cases h64 : 64 < m + n
      · have d4 : decide ((64 : Int) < (m : Int) + (n : Int)) = true := by simp; omega
        dsimp only
        repeat (first | go_values | go_skip | go_guarded | go_step | go_upon)
        go_ret
        exact ⟨rfl, (by repeat (first | exact Below.refl _ _ | assumption | refine bal ?_ _ | refine bdr ?_ | refine bdrn ?_ _ | (refine bset ?_ (by first | exact Nat.le_refl _ | (simp; done) | (simp; omega) | omega) _) | refine bstep ?_ (by assumption)))⟩
      have d4 : decide ((64 : Int) < (m : Int) + (n : Int)) = false := by simp; omega
      have E1 := Lib.hid (show bl (S ++ (⟨#[10]⟩ : ByteArray) ++ T) = bl S ++ 10 :: bl T by rw [bl_app, bl_app, show bl ⟨#[10]⟩ = [10] from rfl, List.append_assoc]; rfl)
      have hsz : (S ++ (⟨#[10]⟩ : ByteArray) ++ T).size ≤ 140737488355328 := by rw [← bl_length, E1.out, List.length_append, List.length_cons, bl_length, bl_length]; omega
      have HSZ := Lib.hid hsz
      obtain ⟨c, hcr, hcs⟩ := rows_reads HR1.out HR2.out (by rw [List.length_append, List.length_cons, bl_length, bl_length]; omega) (by rw [← HM.out, ← HN.out]; omega)
      have HCR := Lib.hid hcr
      have HCS := Lib.hid hcs
      clear hsz hcr hcs
      dsimp only
      repeat (first | go_values | go_skip | go_guarded | go_step | go_upon)
      refine (syn_inr _ _ (HL1.out _ (by repeat (first | exact Below.refl _ _ | assumption | refine bal ?_ _ | refine bdr ?_ | refine bdrn ?_ _ | (refine bset ?_ (by first | exact Nat.le_refl _ | (simp; done) | (simp; omega) | omega) _) | refine bstep ?_ (by assumption)))) HSZ.out (by rw [E1.out]; exact HCR.out)).mono ?_
      rintro e w4 ⟨⟨v4, rfl, hG4⟩, hb4⟩
      obtain ⟨hc4, hf4⟩ := bcell hb4
      have hz4 := hb4.size
      simp only [World.size_alloc] at hz4
      obtain ⟨vc, ccap, rfl⟩ := hG4.len
      have HG4 := Lib.hid hG4
      have x4 : w4.cell? ⟨w2.heap.size, 0, none⟩ = some (.slice va m vcap) := (hc4 _ _ (by simp; omega)).trans ((cell_alloc_lt _ _ _ _ q4).trans y4)
      have x5 : w4.cell? ⟨w3.heap.size, 0, none⟩ = some (.slice vb n bcap) := (hc4 _ _ (by simp)).trans (by simp)
      clear hG4 y4
      have hb23 : Below w2.heap.size w2 w3 := (bal (Below.refl _ w2) _).trans (hb3.mono (by simp))
      have hb34 : Below w3.heap.size w3 w4 := (bal (Below.refl _ w3) _).trans (hb4.mono (by simp))
      have hb24 := hb23.trans (hb34.mono hb23.size)
      obtain ⟨ba, capa, cura, csa, ea, hPa, hha, hcapa, _, hta, hra⟩ := HG.out.row (fun e => by rw [e] at HM; exact absurd HM.out (by simp; omega))
      obtain ⟨bb, capb, curb, csb, eb, hPb, hhb, hcapb, _, htb, hrb⟩ := HG2.out.row (fun e => by rw [e] at HN; exact absurd HN.out (by simp; omega))
      obtain ⟨rfl, -, rfl⟩ : va = some ⟨ba, 0, none⟩ ∧ m = a.length ∧ vcap = capa := by injection ea with h1 h2 h3; exact ⟨h1, h2, h3⟩
      obtain ⟨rfl, -, rfl⟩ : vb = some ⟨bb, 0, none⟩ ∧ n = b.length ∧ bcap = capb := by injection eb with h1 h2 h3; exact ⟨h1, h2, h3⟩
      have hba := hPa.hi
      have hbb := hPb.hi
      have HHA := Lib.hid ((hb24.block ba hba).trans hha)
      have HHB := Lib.hid ((hb34.block bb hbb).trans hhb)
      have HTA := Lib.hid hta
      have HTB := Lib.hid htb
      have HRA := Lib.hid (hra.mono (w' := w4) (fun b h => hb24.block b h.hi) (fun b h => show b < w4.heap.size by have := h.hi; have := hb24.size; omega))
      have HRB := Lib.hid (hrb.mono (w' := w4) (fun b h => hb34.block b h.hi) (fun b h => show b < w4.heap.size by have := h.hi; have := hb34.size; omega))
      have hla : csa.length = m * 10 := by rw [HM.out]; exact HRA.out.length
      have hlb : csb.length = n * 10 := by rw [HN.out]; exact HRB.out.length
      have HLA := Lib.hid hla
      have HLB := Lib.hid hlb
      have z24 := hb24.size
      have z34 := hb34.size
      have q24 : w2.heap.size < w4.heap.size := by omega
      have q34 : w3.heap.size < w4.heap.size := by omega
      obtain ⟨i0, iH, iz, is, ib⟩ := info_parts info_rule
      clear ea eb hha hhb hta htb hra hrb hla hlb hb23 hb34 hb24
      dsimp only
      repeat (first | go_values | go_skip | go_guarded | go_step | go_upon)
      have K4 : ((w4.alloc (.cells #[.slice vc c.length ccap] 61)).alloc (.cells #[.slice none 0 0] 61)).cell? ⟨w2.heap.size, 0, none⟩ = some (.slice (some ⟨ba, 0, none⟩) m vcap) := (cell_alloc_lt _ _ _ _ (by simp; omega)).trans ((cell_alloc_lt _ _ _ _ (by omega)).trans x4)
      have K5 : ((w4.alloc (.cells #[.slice vc c.length ccap] 61)).alloc (.cells #[.slice none 0 0] 61)).cell? ⟨w3.heap.size, 0, none⟩ = some (.slice (some ⟨bb, 0, none⟩) n bcap) := (cell_alloc_lt _ _ _ _ (by simp; omega)).trans ((cell_alloc_lt _ _ _ _ (by omega)).trans x5)
      have HHA5 := Lib.hid (show ((w4.alloc (.cells #[.slice vc c.length ccap] 61)).alloc (.cells #[.slice none 0 0] 61)).heap[ba]? = _ from (RowKit.Below.heap_alloc _ _ _ (by simp; omega)).trans ((RowKit.Below.heap_alloc _ _ _ (by omega)).trans HHA.out))
      have HHB5 := Lib.hid (show ((w4.alloc (.cells #[.slice vc c.length ccap] 61)).alloc (.cells #[.slice none 0 0] 61)).heap[bb]? = _ from (RowKit.Below.heap_alloc _ _ _ (by simp; omega)).trans ((RowKit.Below.heap_alloc _ _ _ (by omega)).trans HHB.out))
      have HB4 := Lib.hid (show Below w.heap.size w w4 from (by repeat (first | exact Below.refl _ _ | assumption | refine bal ?_ _ | refine bdr ?_ | refine bdrn ?_ _ | (refine bset ?_ (by first | exact Nat.le_refl _ | (simp; done) | (simp; omega) | omega) _) | refine bstep ?_ (by assumption))))
      have HH12 := Lib.hid (alloc2_new w4 (.cells #[.slice vc c.length ccap] 61) (.cells #[.slice none 0 0] 61))
      refine wp_region_held_drew (S := fun w' => w'.cell? ⟨w2.heap.size, 0, none⟩ = some (.slice (some ⟨ba, 0, none⟩) m vcap) ∧ w'.cell? ⟨w3.heap.size, 0, none⟩ = some (.slice (some ⟨bb, 0, none⟩) n bcap)) (by kernel_rfl) ⟨K4, K5⟩ (fun hHeld => ?_)
      refine wpAnyH_take (i := 0) (v := ?_) rfl (by kernel_rfl) (by kernel_rfl) (by kernel_rfl) (fun _ _ _ h => h) (Or.inl ⟨by rfl, ?_⟩) (by assumption) ?_
      rotate_left
      · intro wz hSw; (try dsimp only at hSw); (try go_split_ands); go_simp; (try with_reducible rfl)
      try simp only [Act.put, List.setIfInBounds_toArray]
      refine wpAnyH_take (i := 2) (v := ?_) rfl (by kernel_rfl) (by kernel_rfl) (by kernel_rfl) (fun _ _ _ h => h) (Or.inl ⟨by rfl, ?_⟩) (by assumption) ?_
      rotate_left
      · intro wz hSw; (try dsimp only at hSw); (try go_split_ands); go_simp; (try with_reducible rfl)
      try simp only [Act.put]
      refine wpAnyH_take (i := 3) (v := ?_) rfl (by kernel_rfl) (by kernel_rfl) (by kernel_rfl) (fun _ _ _ h => h) (Or.inl ⟨by rfl, ?_⟩) (by assumption) ?_
      rotate_left
      · intro wz hSw; (try dsimp only at hSw); (try go_split_ands); go_simp; (try with_reducible rfl)
      try simp only [Act.put]
      refine wpAnyH_take (i := 5) (v := ?_) rfl (by kernel_rfl) (by kernel_rfl) (by kernel_rfl) (fun _ _ _ h => h) (Or.inl ⟨by rfl, ?_⟩) (by assumption) ?_
      rotate_left
      · intro wz hSw; (try dsimp only at hSw); (try go_split_ands); go_simp; (try with_reducible rfl)
      try simp only [Act.put]
      refine wpAnyH_take (i := 6) (v := ?_) rfl (by kernel_rfl) (by kernel_rfl) (by kernel_rfl) (fun _ _ _ h => h) (Or.inl ⟨by rfl, ?_⟩) (by assumption) ?_
      rotate_left
      · intro wz hSw; (try dsimp only at hSw); (try go_split_ands); go_simp; (try with_reducible rfl)
      try simp only [Act.put]
      refine wpAnyH_ready (rs := [1]) (by kernel_rfl) (by simp) ?_
      refine AllReadyH.cons rfl (fun K hK => ?_) AllReadyH.nil
      go_simp
      refine hK.out _ _ hHeld (fun hHeld => ?_)
      clear hK K
      try simp only [Act.put, List.setIfInBounds_toArray, List.set_cons_zero, List.set_cons_succ]
      refine wpAnyH_ready (rs := [4]) (by kernel_rfl) (by simp) ?_
      refine AllReadyH.cons rfl (fun K hK => ?_) AllReadyH.nil
      refine step_append_lies _ (by rfl) _ _ _ (by rfl) (w4.heap.size + 1 + 1) 69 i0 _ 10 112 Tryd.underlying59 iH iz is ib rfl (by omega) (.slice none 0 0) 0 [] (by rfl) (World.ownsRow_nil _ _ _ _) ⟨ba, 0, none⟩ m vcap csa (by rfl) HLA.out (rule_news HHA5.out HTA.out) HRA.out.one ha0 (by unfold maxLen; omega) (by omega) (by simp) (w4.heap.size + 1 + 1) (by simp) ?_
      intro gg cap5 w5 hown5 hgrow hat hlt
      have hown5m : w5.ownsRow (w4.heap.size + 1 + 1) 69 10 (.slice (some ⟨gg, 0, none⟩) m cap5) m csa := (by simpa using hown5)
      have z5 := hgrow.size
      simp only [World.size_drew, World.size_alloc] at z5
      have kA4 := (hgrow.cell_far ⟨w2.heap.size, 0, none⟩ (by simp; omega) (by intro e; cases e)).trans K4
      have kA5 := (hgrow.cell_far ⟨w3.heap.size, 0, none⟩ (by simp; omega) (by intro e; cases e)).trans K5
      have hB5 := (hgrow.block bb (by simp; omega) (by intro e; cases e)).trans HHB5.out
      have h125 := (hgrow.block (w4.heap.size + 1) (by simp) (by intro e; cases e)).trans HH12.out
      refine hK.out _ _ ⟨kA4, kA5⟩ (fun hHeld => ?_)
      clear hK K
      try simp only [Act.put, List.setIfInBounds_toArray]
      refine wpAnyH_ready (rs := [7]) (by kernel_rfl) (by simp) ?_
      refine AllReadyH.cons rfl (fun K hK => ?_) AllReadyH.nil
      first
      | refine step_append_lies _ (by rfl) _ _ _ (by rfl) (w4.heap.size + 1 + 1) 69 i0 _ 10 112 Tryd.underlying59 iH iz is ib rfl (by omega) (.slice (some ⟨gg, 0, none⟩) (0 + m) cap5) (0 + m) ([] ++ csa) (by rfl) hown5 ⟨bb, 0, none⟩ n bcap csb (by rfl) HLB.out (rule_news hB5 HTB.out) HRB.out.one hb0 (by unfold maxLen; omega) (by omega) (by omega) w5.heap.size rfl ?_
      | refine step_append_lies _ (by rfl) _ _ _ (by rfl) (w4.heap.size + 1 + 1) 69 i0 _ 10 112 Tryd.underlying59 iH iz is ib rfl (by omega) (.slice (some ⟨gg, 0, none⟩) m cap5) m csa (by rfl) hown5m ⟨bb, 0, none⟩ n bcap csb (by rfl) HLB.out (rule_news hB5 HTB.out) HRB.out.one hb0 (by unfold maxLen; omega) (by omega) (by omega) w5.heap.size rfl ?_
      intro gh cap6 w6 hown6 hgrow6 hat6 hlt6
      have gge := (owns_block5 hown5).1
      have kB4 := (hgrow6.cell_far ⟨w2.heap.size, 0, none⟩ (by show w2.heap.size < w5.heap.size; omega) (own_ne (show w2.heap.size ≠ gg by omega))).trans kA4
      have kB5 := (hgrow6.cell_far ⟨w3.heap.size, 0, none⟩ (by show w3.heap.size < w5.heap.size; omega) (own_ne (show w3.heap.size ≠ gg by omega))).trans kA5
      have h126 := (hgrow6.block (w4.heap.size + 1) (by omega) (own_ne (show w4.heap.size + 1 ≠ gg by omega))).trans h125
      have t12 := (cells_at h126).1 0
      have t12f := (cells_at h126).2.1
      refine hK.out _ _ ⟨kB4, kB5⟩ (fun hHeld => ?_)
      clear hK K
      try simp only [Act.put]
      refine wpAnyH_take (i := 8) (v := ?_) rfl (by kernel_rfl) (by kernel_rfl) (by kernel_rfl) (fun _ _ _ h => h) (Or.inl ⟨by rfl, ?_⟩) (by assumption) ?_
      rotate_left
      · intro wz hSw; (try dsimp only at hSw); (try go_split_ands); go_simp; (try with_reducible rfl)
      try simp only [Act.put]
      refine wpAnyH_ready (rs := [9]) (by kernel_rfl) (by simp) ?_
      refine AllReadyH.cons rfl (fun K hK => ?_) AllReadyH.nil
      go_simp
      refine hK.out _ _ ⟨(cell_set_ne _ _ _ _ _ (by simp; omega)).trans kB4, (cell_set_ne _ _ _ _ _ (by simp; omega)).trans kB5⟩ (fun hHeld => ?_)
      clear hK K
      try simp only [Act.put, List.setIfInBounds_toArray, List.set_cons_zero, List.set_cons_succ]
      refine wpAnyH_done (by kernel_rfl) ?_ _
      have z6 := hgrow6.size
      have keep : ∀ b, b < w4.heap.size → (w6.setCell ⟨w4.heap.size + 1, 0, none⟩ (.slice (some ⟨gh, 0, none⟩) (m + n) cap6)).heap[b]? = w4.heap[b]? := fun b hb => (heap_setCell_other _ _ _ _ (show b ≠ w4.heap.size + 1 by omega)).trans ((hgrow6.block b (by omega) (own_ne (show b ≠ gg by omega))).trans ((hgrow.block b (by simp; omega) (by intro e; cases e)).trans ((RowKit.Below.heap_alloc _ _ _ (by simp; omega)).trans (RowKit.Below.heap_alloc _ _ _ hb))))
      have gh6 := (owns_block5 hown6).1
      have own6 : w6.ownsRow (w4.heap.size + 1 + 1) 69 10 (.slice (some ⟨gh, 0, none⟩) (m + n) cap6) (m + n) (csa ++ csb) := by simpa using hown6
      have own7 : (w6.setCell ⟨w4.heap.size + 1, 0, none⟩ (.slice (some ⟨gh, 0, none⟩) (m + n) cap6)).ownsRow (w4.heap.size + 1 + 1) 69 10 (.slice (some ⟨gh, 0, none⟩) (m + n) cap6) (m + n) (csa ++ csb) := own6.kept (gsetk w6 ⟨w4.heap.size + 1, 0, none⟩ _) (.inr (by intro e; have e2 : gh = w4.heap.size + 1 := Option.some.inj e; omega))
      have HSC := Lib.hid (same_G false (w6.setCell ⟨w4.heap.size + 1, 0, none⟩ (.slice (some ⟨gh, 0, none⟩) (m + n) cap6)) HCS.out (HG4.out.mono (P' := fun b => b < w4.heap.size) (fun b hb => keep b hb.hi) (fun b hb => hb.hi)) (owns_rep own7 (gs := a ++ b) (by rw [List.length_append, HM.out, HN.out]) (by omega) ((HRA.out.mono (fun b hb => keep b hb) (fun _ h => h)).append (HRB.out.mono (fun b hb => keep b hb) (fun _ h => h)))) (fun b hb => by simp; omega) (fun b hb => by rcases hb with hb | rfl; (simp; omega); (simpa using hlt6)))
      have t10 : (w6.setCell ⟨w4.heap.size + 1, 0, none⟩ (.slice (some ⟨gh, 0, none⟩) (m + n) cap6)).cell? ⟨w4.heap.size, 0, none⟩ = some (.slice vc c.length ccap) := (cell_set_ne _ _ _ _ _ (by simp)).trans ((hgrow6.cell_far ⟨w4.heap.size, 0, none⟩ (by show w4.heap.size < w5.heap.size; omega) (own_ne (show w4.heap.size ≠ gg by omega))).trans ((hgrow.cell_far ⟨w4.heap.size, 0, none⟩ (by simp; omega) (by intro e; cases e)).trans ((cell_alloc_lt _ _ _ _ (by simp)).trans (by simp))))
      have t12' : (w6.setCell ⟨w4.heap.size + 1, 0, none⟩ (.slice (some ⟨gh, 0, none⟩) (m + n) cap6)).cell? ⟨w4.heap.size + 1, 0, none⟩ = some (.slice (some ⟨gh, 0, none⟩) (m + n) cap6) := (cells_at (heap_setCell_same _ (w4.heap.size + 1) 0 _ _ _ h126)).1 0
      have HBW : Below w.heap.size w (w6.setCell ⟨w4.heap.size + 1, 0, none⟩ (.slice (some ⟨gh, 0, none⟩) (m + n) cap6)) := ⟨hgrow6.os.trans (hgrow.os.trans HB4.out.os), hgrow6.tape.trans (hgrow.tape.trans HB4.out.tape), hgrow6.output.trans (hgrow.output.trans HB4.out.output), by have := HB4.out.size; simp; omega, fun k hk => (keep k (by have := HB4.out.size; omega)).trans (HB4.out.block k hk)⟩
      have HBX := Lib.hid HBW
      generalize (w6.setCell ⟨w4.heap.size + 1, 0, none⟩ (.slice (some ⟨gh, 0, none⟩) (m + n) cap6)) = w7 at *
      clear keep own6 own7 hown5 hown5m hown6 hgrow hgrow6 kA4 kA5 kB4 kB5 h125 h126 t12 t12f HBW hc4 hc3 hc2 hb2 hb3 hb4
      repeat (first | go_values | go_skip | go_guarded | go_step | go_upon)
      refine HSC.out.mono ?_
      rintro e w8 ⟨rfl, hb8⟩
      dsimp only
      repeat (first | go_values | go_skip | go_guarded | go_step | go_upon)
      go_ret
      exact ⟨rfl, HBX.out.trans (hb8.mono HBX.out.size)⟩
end Go.Proofs.YtlohpplpnddfaaaDoor
