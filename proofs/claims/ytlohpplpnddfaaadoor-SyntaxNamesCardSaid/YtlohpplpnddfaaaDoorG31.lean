/- The heads of rules are the names ahead of arrows: plain. | The walk of SyntaxNames. -/
import Derived.Test.YtlohpplpnddfaaaDoorG23
import Derived.Test.YtlohpplpnddfaaaDoorG30
import Derived.Test.YtlohpplpnddfaaaDoorG21
namespace Go.Proofs.YtlohpplpnddfaaaDoor
open Go.RowKit

/-- What is read between the two holds no arrow. -/
def Eats (rs r : List Tok) : Prop := ∃ T : List Tok, rs = T ++ r ∧ ∀ t ∈ T, t.kind ≠ 2
theorem Eats.rfl' {r : List Tok} : Eats r r := ⟨[], rfl, fun _ h => by cases h⟩
theorem Eats.trans {a b c : List Tok} (h : Eats a b) (h2 : Eats b c) : Eats a c := by
  obtain ⟨T, rfl, h⟩ := h
  obtain ⟨U, rfl, h2⟩ := h2
  refine ⟨T ++ U, by simp, fun t ht => ?_⟩
  rcases List.mem_append.1 ht with ht | ht
  · exact h t ht
  · exact h2 t ht
theorem Eats.one {t : Tok} {r : List Tok} (h : t.kind ≠ 2) : Eats (t :: r) r := ⟨[t], rfl, fun u hu => by rw [List.mem_singleton.1 hu]; exact h⟩
theorem Eats.sgn {rs : List Tok} (h : sgnOf rs ≠ []) : Eats rs rs.tail := by
  cases rs with
  | nil => exact .rfl'
  | cons t rs =>
    refine .one fun h2 => h ?_
    rw [sgnOf, if_neg (by omega)]
structure EatS (f : Nat) : Prop where
  choice : ∀ {d : Nat} {rs r : List Tok} {n : Nd}, pChoice f d rs = some (.ok n r) → Eats rs r
  alts : ∀ {d : Nat} {rs r : List Tok} {l : List Nd} {n : Nd}, pAlts f d rs l = some (.ok n r) → Eats rs r
  parts : ∀ {d : Nat} {rs r : List Tok} {l : List Nd} {n : Nd}, pParts f d rs l = some (.ok n r) → Eats rs r
  part : ∀ {d : Nat} {rs r : List Tok} {o : Option Nd}, pPart f d rs = some (.ok o r) → Eats rs r
  one : ∀ {d : Nat} {rs r : List Tok} {o : Option Nd}, pOne f d rs = some (.ok o r) → Eats rs r
theorem eat_all : ∀ f, EatS f := by
  intro f
  induction f with
  | zero => exact ⟨fun h => by simp [pChoice] at h, fun h => by simp [pAlts] at h, fun h => by simp [pParts] at h, fun h => by simp [pPart] at h, fun h => by simp [pOne] at h⟩
  | succ f ih =>
    refine ⟨fun {d rs r n} h => ?_, fun {d rs r l n} h => ?_, fun {d rs r l n} h => ?_, fun {d rs r o} h => ?_, fun {d rs r o} h => ?_⟩
    · rw [pChoice] at h
      split at h
      · cases h
      · cases h
      next h1 => exact (ih.parts h1).trans (ih.alts h)
    · rw [pAlts] at h
      split at h
      next hs =>
        have e : Eats rs rs.tail := .sgn (by rw [hs]; simp)
        split at h
        · cases h
        · cases h
        next h1 => exact e.trans ((ih.parts h1).trans (ih.alts h))
      · cases h; exact .rfl'
    · rw [pParts] at h
      split at h
      · cases h
      · cases h
      next h1 => cases h; exact ih.part h1
      next h1 => exact (ih.part h1).trans (ih.parts h)
    · rw [pPart] at h
      have e : Eats rs (if preK (sgnOf rs) = 0 then rs else rs.tail) := by
        split
        · exact .rfl'
        next h0 => exact .sgn (fun h1 => h0 (by rw [h1]; rfl))
      split at h
      · cases h
      · cases h
      next h1 =>
        split at h
        · cases h; exact e.trans (ih.one h1)
        · cases h
      next rs2 h1 =>
        have e2 := e.trans (ih.one h1)
        cases h
        split
        · exact e2
        next h0 => exact e2.trans (.sgn (fun h1 => h0 (by rw [h1]; rfl)))
    · cases rs with
      | nil => simp [pOne] at h
      | cons t rs =>
        rw [pOne] at h
        split at h
        next k =>
          split at h
          · cases h; exact .rfl'
          · cases h; exact .one (by omega)
        split at h
        · cases h; exact .one (by omega)
        split at h
        · cases h; exact .one (by omega)
        split at h
        next k => cases h; exact .one (by omega)
        split at h
        next k =>
          split at h
          · cases h
          split at h
          · cases h
          · cases h
          next h1 =>
            split at h
            next hs =>
              cases h
              exact (Eats.one (by omega)).trans ((ih.choice h1).trans (.sgn (by rw [hs]; simp)))
            · cases h
        · cases h; exact .rfl'
/-- The names ahead of arrows. -/
def heads : List Tok → List (List UInt8 × Nat)
  | [] => []
  | t :: l => (if kindT l = 2 then [(t.text, t.pos)] else []) ++ heads l
theorem heads_eat {rs r : List Tok} (h : Eats rs r) (hr : kindT r ≠ 2) : heads rs = heads r ∧ kindT rs ≠ 2 := by
  obtain ⟨T, rfl, hT⟩ := h
  induction T with
  | nil => exact ⟨rfl, hr⟩
  | cons t T ih =>
    obtain ⟨h1, h2⟩ := ih (fun u hu => hT u (by simp [hu]))
    exact ⟨by rw [List.cons_append, heads, if_neg h2, h1]; rfl, hT t (by simp)⟩
theorem EndsT.behind {T r : List Tok} (h : EndsT (T ++ r)) (hr : r ≠ []) : EndsT r := by
  induction T with
  | nil => exact h
  | cons t T ih =>
    cases hT : T ++ r with
    | nil => simp at hT; exact absurd hT.2 hr
    | cons u l =>
      rw [List.cons_append, hT] at h
      exact ih (by rw [hT]; exact h.2)
theorem rules_next {f : Nat} {rs r : List Tok} {acc g : List Ru} (h : pRules f rs acc = some (.ok g r)) : kindT rs = 6 ∨ kindT rs = 1 := by
  cases f with
  | zero => cases h
  | succ f =>
    rw [pRules] at h
    split at h
    · next h6 => exact .inl h6.2
    split at h
    · cases h
    split at h
    · cases h
    next h1 => omega
/-- The rules' names and places, behind those that were read before. -/
theorem rules_heads : ∀ (f : Nat) {rs r : List Tok} {acc g : List Ru}, EndsT rs → pRules f rs acc = some (.ok g r) → g.map (fun u => (u.name, u.pos)) = acc.map (fun u => (u.name, u.pos)) ++ heads rs := by
  intro f
  induction f with
  | zero => intro rs r acc g _ h; cases h
  | succ f ih =>
    intro rs r acc g hE h
    rw [pRules] at h
    split at h
    · next h6 =>
      cases h
      have e : heads rs = [] := by
        match rs, hE, h6 with
        | [t], _, _ => rfl
        | t :: u :: l, hE, h6 => exact absurd h6.2 hE.1
      rw [e, List.append_nil]
    split at h
    · cases h
    split at h
    · cases h
    next h1 =>
    split at h
    · cases h
    next h2 =>
    have k1 : kindT rs = 1 := by omega
    have k2 : kindT rs.tail = 2 := by omega
    split at h
    · cases h
    · cases h
    next n r2 hc =>
    have hk := rules_next h
    obtain ⟨T, hT, hT2⟩ := (eat_all f).choice hc
    have hh := heads_eat ⟨T, hT, hT2⟩ (show kindT r2 ≠ 2 by omega)
    match rs, hE, k1, k2, hT, hh, h with
    | t :: a :: l, hE, k1, k2, hT, hh, h =>
      have k1' : t.kind = 1 := k1
      have k2' : a.kind = 2 := k2
      have hT' : l = T ++ r2 := hT
      have hh1 : heads l = heads r2 := hh.1
      have hh2 : kindT l ≠ 2 := hh.2
      have hr2 : r2 ≠ [] := by
        rintro rfl
        rcases hk with hk | hk <;> exact absurd hk (by decide)
      have hE2 : EndsT r2 := EndsT.behind (T := t :: a :: T) (by rw [List.cons_append, List.cons_append, ← hT']; exact hE) hr2
      rw [ih hE2 h, heads, if_pos (show kindT (a :: l) = 2 from k2'), heads, if_neg hh2, hh1, List.map_append]
      simp [nameT, posT]
theorem reads_heads {s : List UInt8} {l : List Tok} {g : List Ru} (hl : lexed s = .inr l) (h : Reads s (.inr g)) : g.map (fun u => (u.name, u.pos)) = heads l ∧ 0 < g.length ∧ g.length ≤ 64 := by
  have hE := (toks_ends (lexed_inr hl).2).1
  unfold Reads at h
  rw [hl] at h
  obtain ⟨f, h⟩ := h
  rcases h with ⟨c, x, _, h⟩ | ⟨g', rs, h, h2⟩
  · cases h
  · cases h2
    exact ⟨by simpa using rules_heads f hE h, by
      obtain ⟨T, e, rfl, hT, he⟩ := ends_split hE
      obtain ⟨g', hg, _, hpos, _⟩ := rules_swap (pre := []) he (end_stop he) f hT rfl .nil h (by have := rules_le h (by simp); simpa using this)
      exact hpos, by have := rules_le h (by simp); simpa using this⟩
theorem heads_at {l : List Tok} {k : Nat} {t u : Tok} (ht : l[k]? = some t) (hu : l[k + 1]? = some u) : heads (l.drop k) = (if u.kind = 2 then [(t.text, t.pos)] else []) ++ heads (l.drop (k + 1)) := by
  obtain ⟨h1, rfl⟩ := List.getElem?_eq_some_iff.1 ht
  obtain ⟨h2, rfl⟩ := List.getElem?_eq_some_iff.1 hu
  rw [List.drop_eq_getElem_cons h1, heads]
  congr 1
  rw [List.drop_eq_getElem_cons h2]
  rfl
theorem heads_last {l : List Tok} {k : Nat} (h : k + 1 = l.length) : heads (l.drop k) = [] := by
  rw [List.drop_eq_getElem_cons (by omega), List.drop_eq_nil_of_le (by omega)]
  rfl
end Go.Proofs.YtlohpplpnddfaaaDoor
namespace Go.Proofs.YtlohpplpnddfaaaDoor
open Go.RowKit Go.Sort

set_option maxRecDepth 100000 in
set_option maxHeartbeats 6400000 in
theorem snames_any (S : ByteArray) (w : World) (hg : Laid w) (hs : S.size ≤ 140737488351232) : Calls Tryd.prog 16 #[.string S] w (Ans (.bool true) w) := by
  have hls := bl_length S
  have HL := Lib.hid hg
  have HL1 := Lib.hid (fun (W : World) (h : Below w.heap.size w W) => HL.out.below h HL.out.pos)
  have hm1 := cell_alloc_lt
  clear hg
  have hs2 : S.size ≤ 140737488355328 := by omega
  go_enter Tryd.func16, Tryd.ntmps16
  repeat (first | go_values | go_skip | go_guarded | go_step | go_upon)
  refine (small4_any _ HL.out).mono ?_
  rintro e w1 ⟨rfl, hb1⟩
  obtain ⟨hc1, hf1⟩ := bcell hb1
  have hz1 := hb1.size
  try simp at hz1
  dsimp only
  repeat (first | go_values | go_skip | go_guarded | go_step | go_upon)
  refine (syn_any S _ (HL1.out _ (by repeat (first | exact Below.refl _ _ | assumption | refine bal ?_ _ | refine bdr ?_ | refine bdrn ?_ _ | (refine bset ?_ (by first | exact Nat.le_refl _ | (simp; done) | (simp; omega) | omega) _) | refine bstep ?_ (by assumption)))) hs2).mono ?_
  rintro e w2 ⟨hb2, r, hr, hp⟩
  obtain ⟨hc2, hf2⟩ := bcell hb2
  have hz2 := hb2.size
  have HR := Lib.hid hr
  clear hr
  cases hA : lexed (bl S) with
  | inl ea =>
    obtain ⟨c, x⟩ := ea
    have HA := Lib.hid hA
    have hc0 := lexed_code hA
    have d1 : ((c : Int) != 0) = true := by simp; omega
    have e1 : r = .inl (c, x) := by have := HR.out; unfold Reads at this; rw [hA] at this; exact this
    clear hA
    subst e1
    obtain ⟨p, rfl, _, _⟩ := hp
    dsimp only
    repeat (first | go_values | go_skip | go_guarded | go_step | go_upon)
    refine (rlexed_no S _ HA.out).mono ?_
    rintro e w3 ⟨rfl, hb3⟩
    obtain ⟨hc3, hf3⟩ := bcell hb3
    have hz3 := hb3.size
    try simp at hz3
    dsimp only
    repeat (first | go_values | go_skip | go_guarded | go_step | go_upon)
    go_region
    repeat (first | go_values | go_skip | go_guarded | go_step | go_upon)
    go_ret
    exact ⟨rfl, (by repeat (first | exact Below.refl _ _ | assumption | refine bal ?_ _ | refine bdr ?_ | refine bdrn ?_ _ | (refine bset ?_ (by first | exact Nat.le_refl _ | (simp; done) | (simp; omega) | omega) _) | refine bstep ?_ (by assumption)))⟩
  | inr la =>
    have HA := Lib.hid hA
    have hl0 : 0 < la.length := by
      have := (toks_ends (lexed_inr hA).2).1
      cases la with
      | nil => cases this
      | cons t l => simp
    cases r with
    | inl er =>
      obtain ⟨c, x⟩ := er
      obtain ⟨p, rfl, _, _⟩ := hp
      clear hA
      dsimp only
      repeat (first | go_values | go_skip | go_guarded | go_step | go_upon)
      refine (rlexed_ok S _ HA.out).mono ?_
      rintro e w3 ⟨v, rfl, hownA, hb3⟩
      obtain ⟨ga, ca, hv, _⟩ := hownA.form hl0
      subst hv
      clear hownA
      dsimp only
      repeat (first | go_values | go_skip | go_guarded | go_step | go_upon)
      go_region
      repeat (first | go_values | go_skip | go_guarded | go_step | go_upon)
      go_ret
      exact ⟨rfl, (by repeat (first | exact Below.refl _ _ | assumption | refine bal ?_ _ | refine bdr ?_ | refine bdrn ?_ _ | (refine bset ?_ (by first | exact Nat.le_refl _ | (simp; done) | (simp; omega) | omega) _) | refine bstep ?_ (by assumption)))⟩
    | inr g =>
      obtain ⟨hh, hg0, hg64⟩ := reads_heads hA HR.out
      obtain ⟨v, rfl, hG⟩ := hp
      obtain ⟨b, cap, cur, cs, rfl, hP, hbk, hcap, hmax, ht, hrr⟩ := hG.row (by intro h; subst h; simp at hg0)
      have HG := Lib.hid hG
      have HH := Lib.hid hh
      have lA := lexed_len hA
      clear hA hG hh hP hbk hcap hmax ht hrr
      dsimp only
      repeat (first | go_values | go_skip | go_guarded | go_step | go_upon)
      refine (rlexed_ok S _ HA.out).mono ?_
      rintro e w3 ⟨v, rfl, hownA, hb3⟩
      obtain ⟨ga, ca, hv, _⟩ := hownA.form hl0
      subst hv
      have k1 := @wrap_len
      dsimp only
      repeat (first | go_values | go_skip | go_guarded | go_step | go_upon)
      go_loopw [9, 10] (fun v t wr => ∃ k m : Nat, t = .int .i64 (k : Int) ∧ v = .int .i64 (m : Int) ∧ k + 1 ≤ la.length ∧ m ≤ g.length ∧ Hid ((g.drop m).map (fun u => (u.name, u.pos)) = heads (la.drop k)) ∧ Below w3.heap.size w3 wr) (fun _ t _ => la.length - (intOf t).toNat)
      case atStart => exact ⟨0, 0, rfl, rfl, hl0, Nat.zero_le _, HH, Below.refl _ _⟩
      case round =>
        obtain ⟨k, m, rfl, rfl, hk, hm, HK, hb⟩ := hrel
        have oA := owns_below hownA hb
        have qg : ga < wr.heap.size := (oA.lt ga rfl).2
        have hbr : Below w2.heap.size w2 wr := (by repeat (first | exact Below.refl _ _ | assumption | refine bal ?_ _ | refine bdr ?_ | refine bdrn ?_ _ | (refine bset ?_ (by first | exact Nat.le_refl _ | (simp; done) | (simp; omega) | omega) _) | refine bstep ?_ (by assumption)))
        have hz3 := hb3.size
        simp only [World.size_alloc] at hz3
        have y4 : wr.cell? ⟨w2.heap.size, 0, none⟩ = some (.slice (some ⟨b, 0, none⟩) g.length cap) := (hb.cell (p := ⟨w2.heap.size, 0, none⟩) (by show w2.heap.size < _; omega)).trans ((hb3.cell (p := ⟨w2.heap.size, 0, none⟩) (by simp)).trans (by simp))
        rcases Nat.lt_or_ge (k + 1) la.length with hlt | hge
        · obtain ⟨t, ht⟩ : ∃ t, la[k]? = some t := ⟨la[k], List.getElem?_eq_getElem (by omega)⟩
          obtain ⟨u, hu⟩ : ∃ u, la[k + 1]? = some u := ⟨la[k + 1], List.getElem?_eq_getElem hlt⟩
          have hat := heads_at ht hu
          have c0 := (tok_at oA rfl hu).1
          obtain ⟨_, c1, _, _, _, _, c6⟩ := tok_at oA rfl ht
          have k5 : IntKind.i64.wrap ((k : Int) + 1) = (k : Int) + 1 := by rw [IntKind.wrap_i64]; omega
          by_cases h2 : u.kind = 2
          · have e := HK.out
            rw [hat, if_pos h2] at e
            have hmg : m < g.length := by
              have := congrArg List.length e
              simp at this
              omega
            obtain ⟨x, hx⟩ : ∃ x, g[m]? = some x := ⟨g[m], List.getElem?_eq_getElem hmg⟩
            rw [List.drop_eq_getElem_cons hmg, List.map_cons, List.cons_append, List.nil_append, (List.getElem?_eq_some_iff.1 hx).2] at e
            injection e with e1 e2
            injection e1 with e3 e4
            have HX := Lib.hid e2
            obtain ⟨b', cap', cur', cs', hv', hP', hbk, _, _, htk, hrr⟩ := (HG.out.on hbr).row (by intro h; subst h; simp at hg0)
            injection hv' with hv1 hv2 hv3
            injection hv1 with hv1
            injection hv1 with hv1
            subst hv1
            obtain ⟨_, _, _, _, _, _, _, r0, _, _, _, _, _, _, _, _, r9⟩ := rule_cells rfl hbk htk hrr hx
            have qb := (Array.getElem?_eq_some_iff.1 hbk).1
            rw [e3] at r0
            rw [e4] at r9
            have d2 : ((u.kind : Int) != 2) = false := (ine' u.kind 2).trans (by rw [decide_eq_true h2]; rfl)
            have d3 : decide ((k : Int) + 1 < (la.length : Int)) = true := by simp; omega
            have k6 : IntKind.i64.wrap ((m : Int) + 1) = (m : Int) + 1 := by rw [IntKind.wrap_i64]; omega
            have d7 : decide (g.length ≤ m) = false := by simp; omega
            have d8 : m < g.length := hmg
            clear hat ht hu hbk htk hrr e2 e3 e4 hx hv2 hv3 hP'
            repeat (first | go_values | go_skip | go_guarded | go_step | go_upon)
            go_region
            repeat (first | go_values | go_skip | go_guarded | go_step | go_upon)
            exact ⟨⟨k + 1, m + 1, by go_num, by go_num, by omega, by omega, HX, (by repeat (first | exact Below.refl _ _ | assumption | refine bal ?_ _ | refine bdr ?_ | refine bdrn ?_ _ | (refine bset ?_ (by first | exact Nat.le_refl _ | (simp; done) | (simp; omega) | omega) _) | refine bstep ?_ (by assumption)))⟩, by simp [intOf]; omega⟩
          · have d2 : ((u.kind : Int) != 2) = true := (ine' u.kind 2).trans (by rw [decide_eq_false h2]; rfl)
            have d3 : decide ((k : Int) + 1 < (la.length : Int)) = true := by simp; omega
            have HX := Lib.hid (show (g.drop m).map (fun u => (u.name, u.pos)) = heads (la.drop (k + 1)) by rw [HK.out, hat, if_neg h2]; rfl)
            clear hat ht hu
            repeat (first | go_values | go_skip | go_guarded | go_step | go_upon)
            exact ⟨⟨k + 1, m, by go_num, rfl, by omega, hm, HX, (by repeat (first | exact Below.refl _ _ | assumption | refine bal ?_ _ | refine bdr ?_ | refine bdrn ?_ _ | (refine bset ?_ (by first | exact Nat.le_refl _ | (simp; done) | (simp; omega) | omega) _) | refine bstep ?_ (by assumption)))⟩, by simp [intOf]; omega⟩
        · have hm2 : m = g.length := by
            have e := congrArg List.length HK.out
            rw [heads_last (by omega)] at e
            simp at e
            omega
          have d3 : decide ((k : Int) + 1 < (la.length : Int)) = false := by simp; omega
          have d4 : ((m : Int) == (g.length : Int)) = true := by rw [hm2]; simp
          have d5 : decide ((m : Int) > 0) = true := by simp; omega
          have d6 : decide ((0 : Int) < (m : Int)) = true := by simp; omega
          have k5 : IntKind.i64.wrap ((k : Int) + 1) = (k : Int) + 1 := by rw [IntKind.wrap_i64]; omega
          repeat (first | go_values | go_skip | go_guarded | go_step | go_upon)
          go_ret
          exact ⟨rfl, (by repeat (first | exact Below.refl _ _ | assumption | refine bal ?_ _ | refine bdr ?_ | refine bdrn ?_ _ | (refine bset ?_ (by first | exact Nat.le_refl _ | (simp; done) | (simp; omega) | omega) _) | refine bstep ?_ (by assumption)))⟩
end Go.Proofs.YtlohpplpnddfaaaDoor
