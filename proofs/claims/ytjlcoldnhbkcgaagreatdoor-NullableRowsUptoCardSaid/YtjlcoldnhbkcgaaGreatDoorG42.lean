/- What expressions may come to: plain. | A table of answers, as a map holds it: plain. | nullable: a table's expr of the trees without parts. | nullable: blocks that hold an answer. | nullable: behind. | nullable: a table's expr of a row. | nullable: instead, alone. | nullable: a table's expr of a choice. -/
import Derived.Test.YtjlcoldnhbkcgaaGreatDoorG40
import Derived.Test.YtjlcoldnhbkcgaaGreatDoorG41
namespace Go.Proofs.YtjlcoldnhbkcgaaGreatDoor
open Go.RowKit

/-- Nothing consumed, something consumed, failed: may it be? -/
structure Ot where
  z : Bool
  s : Bool
  f : Bool
deriving DecidableEq
def otC (o : Ot) : List Value := [.bool o.z, .bool o.s, .bool o.f]
def ot0 : Ot := ⟨false, false, false⟩
def otB (a b : Ot) : Ot := ⟨a.z && b.z, (a.s && (b.z || b.s)) || ((a.z || a.s) && b.s), a.f || ((a.z || a.s) && b.f)⟩
def otI (a b : Ot) : Ot := if a.f then ⟨a.z || b.z, a.s || b.s, b.f⟩ else a
def otA (k : Int) (a : Ot) : Ot := if k = 8 then ⟨a.z || a.f, a.s, false⟩ else if k = 9 then ⟨a.f, a.s, false⟩ else if k = 10 then ⟨a.z && a.f, a.s, a.f⟩ else if k = 11 then ⟨a.z || a.s, false, a.f⟩ else if k = 12 then ⟨a.f, false, a.z || a.s⟩ else ot0
mutual
/-- What a tree may come to, by what the names may. -/
def exT (T : List UInt8 → Ot) : Tr → Ot
  | .mk k t c l _ =>
    if k = 1 then ⟨true, false, false⟩ else if k = 5 then T t else if k = 2 then ⟨t.isEmpty, !t.isEmpty, !t.isEmpty⟩ else if k = 3 then ⟨false, !(c == 0#256), true⟩ else if k = 4 then ⟨false, true, true⟩
    else if k = 6 then exS T ⟨true, false, false⟩ l else if k = 7 then exO T ⟨false, false, true⟩ l else otA k (exH T l)
def exS (T : List UInt8 → Ot) (o : Ot) : List Tr → Ot
  | [] => o
  | n :: l => exS T (otB o (exT T n)) l
def exO (T : List UInt8 → Ot) (o : Ot) : List Tr → Ot
  | [] => o
  | n :: l => exO T (otI o (exT T n)) l
def exH (T : List UInt8 → Ot) : List Tr → Ot
  | [] => ot0
  | n :: _ => exT T n
end
theorem exS_snoc (T : List UInt8 → Ot) (l : List Tr) : ∀ (o : Ot) (n : Tr), exS T o (l ++ [n]) = otB (exS T o l) (exT T n) := by
  induction l with
  | nil => intro o n; rw [List.nil_append, exS, exS, exS]
  | cons m l ih => intro o n; rw [List.cons_append, exS, ih, exS]
theorem exO_snoc (T : List UInt8 → Ot) (l : List Tr) : ∀ (o : Ot) (n : Tr), exO T o (l ++ [n]) = otI (exO T o l) (exT T n) := by
  induction l with
  | nil => intro o n; rw [List.nil_append, exO, exO, exO]
  | cons m l ih => intro o n; rw [List.cons_append, exO, ih, exO]
/-- Less may be. -/
def Ot.le (a b : Ot) : Prop := (a.z = true → b.z = true) ∧ (a.s = true → b.s = true) ∧ (a.f = true → b.f = true)
instance (a b : Ot) : Decidable (Ot.le a b) := by unfold Ot.le; infer_instance
theorem Ot.le_refl (a : Ot) : Ot.le a a := ⟨id, id, id⟩
theorem Ot.le_trans {a b c : Ot} (h : Ot.le a b) (g : Ot.le b c) : Ot.le a c := ⟨fun x => g.1 (h.1 x), fun x => g.2.1 (h.2.1 x), fun x => g.2.2 (h.2.2 x)⟩
theorem Ot.le_antisymm {a b : Ot} (h : Ot.le a b) (g : Ot.le b a) : a = b := by
  obtain ⟨a1, a2, a3⟩ := a
  obtain ⟨b1, b2, b3⟩ := b
  obtain ⟨h1, h2, h3⟩ := h
  obtain ⟨g1, g2, g3⟩ := g
  dsimp only at h1 h2 h3 g1 g2 g3
  rw [Bool.eq_iff_iff.2 ⟨h1, g1⟩, Bool.eq_iff_iff.2 ⟨h2, g2⟩, Bool.eq_iff_iff.2 ⟨h3, g3⟩]
theorem ot0_le (a : Ot) : Ot.le ot0 a := by simp [Ot.le, ot0]
theorem otB_mono {a a' b b' : Ot} (h : Ot.le a a') (g : Ot.le b b') : Ot.le (otB a b) (otB a' b') := by
  obtain ⟨a1, a2, a3⟩ := a
  obtain ⟨b1, b2, b3⟩ := b
  obtain ⟨c1, c2, c3⟩ := a'
  obtain ⟨d1, d2, d3⟩ := b'
  revert h g
  revert a1 a2 a3 b1 b2 b3 c1 c2 c3 d1 d2 d3
  decide
theorem otI_mono {a a' b b' : Ot} (h : Ot.le a a') (g : Ot.le b b') : Ot.le (otI a b) (otI a' b') := by
  obtain ⟨a1, a2, a3⟩ := a
  obtain ⟨b1, b2, b3⟩ := b
  obtain ⟨c1, c2, c3⟩ := a'
  obtain ⟨d1, d2, d3⟩ := b'
  revert h g
  revert a1 a2 a3 b1 b2 b3 c1 c2 c3 d1 d2 d3
  decide
theorem otA_mono (k : Int) {a a' : Ot} (h : Ot.le a a') : Ot.le (otA k a) (otA k a') := by
  unfold otA
  obtain ⟨a1, a2, a3⟩ := a
  obtain ⟨c1, c2, c3⟩ := a'
  split
  · revert h; revert a1 a2 a3 c1 c2 c3; decide
  · split
    · revert h; revert a1 a2 a3 c1 c2 c3; decide
    · split
      · revert h; revert a1 a2 a3 c1 c2 c3; decide
      · split
        · revert h; revert a1 a2 a3 c1 c2 c3; decide
        · split
          · revert h; revert a1 a2 a3 c1 c2 c3; decide
          · exact Ot.le_refl _
def TLe (T T' : List UInt8 → Ot) : Prop := ∀ n, Ot.le (T n) (T' n)
mutual
theorem exT_mono {T T' : List UInt8 → Ot} (h : TLe T T') : ∀ n : Tr, Ot.le (exT T n) (exT T' n)
  | .mk k t c l p => by
    rw [exT, exT]
    split
    · exact Ot.le_refl _
    · split
      · exact h t
      · split
        · exact Ot.le_refl _
        · split
          · exact Ot.le_refl _
          · split
            · exact Ot.le_refl _
            · split
              · exact exS_mono h l (Ot.le_refl _)
              · split
                · exact exO_mono h l (Ot.le_refl _)
                · exact otA_mono k (exH_mono h l)
theorem exS_mono {T T' : List UInt8 → Ot} (h : TLe T T') : ∀ (l : List Tr) {o o' : Ot}, Ot.le o o' → Ot.le (exS T o l) (exS T' o' l)
  | [], o, o', g => by rw [exS, exS]; exact g
  | n :: l, o, o', g => by rw [exS, exS]; exact exS_mono h l (otB_mono g (exT_mono h n))
theorem exO_mono {T T' : List UInt8 → Ot} (h : TLe T T') : ∀ (l : List Tr) {o o' : Ot}, Ot.le o o' → Ot.le (exO T o l) (exO T' o' l)
  | [], o, o', g => by rw [exO, exO]; exact g
  | n :: l, o, o', g => by rw [exO, exO]; exact exO_mono h l (otI_mono g (exT_mono h n))
theorem exH_mono {T T' : List UInt8 → Ot} (h : TLe T T') : ∀ l : List Tr, Ot.le (exH T l) (exH T' l)
  | [] => by rw [exH, exH]; exact Ot.le_refl _
  | n :: _ => by rw [exH, exH]; exact exT_mono h n
end
/-- The least answers for rules. -/
def upd (T : List UInt8 → Ot) (n : List UInt8) (o : Ot) : List UInt8 → Ot := fun m => if m = n then o else T m
def Pre (g : List Rr) (T : List UInt8 → Ot) : Prop := ∀ y ∈ g, Ot.le (exT T y.body) (T y.name)
structure Rise (g : List Rr) (T : List UInt8 → Ot) : Prop where
  up : ∀ y ∈ g, Ot.le (T y.name) (exT T y.body)
  low : ∀ T', Pre g T' → TLe T T'
def Least (g : List Rr) (T : List UInt8 → Ot) : Prop := (∀ y ∈ g, exT T y.body = T y.name) ∧ ∀ T', Pre g T' → TLe T T'
theorem Least.det {g : List Rr} {T T' : List UInt8 → Ot} (h : Least g T) (h' : Least g T') : T = T' := by
  funext n
  refine Ot.le_antisymm (h.2 T' (fun y hy => ?_) n) (h'.2 T (fun y hy => ?_) n)
  · rw [h'.1 y hy]; exact Ot.le_refl _
  · rw [h.1 y hy]; exact Ot.le_refl _
theorem rise_start (g : List Rr) : Rise g (fun _ => ot0) := ⟨fun _ _ => ot0_le _, fun _ _ _ => ot0_le _⟩
theorem upd_le {T : List UInt8 → Ot} {n : List UInt8} {o : Ot} (h : Ot.le (T n) o) : TLe T (upd T n o) := fun m => by
  unfold upd
  split
  · rename_i e; rw [e]; exact h
  · exact Ot.le_refl _
theorem apart_eq {g : List Rr} (ha : Apart g) {x y : Rr} (hx : x ∈ g) (hy : y ∈ g) (e : x.name = y.name) : x = y := by
  obtain ⟨i, hi⟩ := List.mem_iff_getElem?.1 hx
  obtain ⟨j, hj⟩ := List.mem_iff_getElem?.1 hy
  have h1 := ha i x hi
  have h2 := ha j y hj
  rw [e, h2] at h1
  injection h1 with h1
  subst h1
  rw [hi] at hj
  injection hj
theorem rise_upd {g : List Rr} {T : List UInt8 → Ot} (ha : Apart g) (h : Rise g T) {y : Rr} (hy : y ∈ g) : Rise g (upd T y.name (exT T y.body)) := by
  have hle := upd_le (h.up y hy)
  refine ⟨fun x hx => ?_, fun T' hT' m => ?_⟩
  · by_cases hn : x.name = y.name
    · obtain rfl := apart_eq ha hx hy hn
      rw [show upd T x.name (exT T x.body) x.name = exT T x.body from if_pos rfl]
      exact exT_mono hle _
    · rw [show upd T y.name (exT T y.body) x.name = T x.name from if_neg hn]
      exact Ot.le_trans (h.up x hx) (exT_mono hle _)
  · unfold upd
    split
    · rename_i e; rw [e]; exact Ot.le_trans (exT_mono (h.low T' hT') _) (hT' y hy)
    · exact h.low T' hT' m
/-- How many answers are still open. -/
def opn (o : Ot) : Nat := (if o.z then 0 else 1) + (if o.s then 0 else 1) + (if o.f then 0 else 1)
theorem opn_le {a b : Ot} (h : Ot.le a b) : opn b ≤ opn a := by
  obtain ⟨a1, a2, a3⟩ := a
  obtain ⟨c1, c2, c3⟩ := b
  revert h; revert a1 a2 a3 c1 c2 c3; decide
theorem opn_lt {a b : Ot} (h : Ot.le a b) (hne : a ≠ b) : opn b < opn a := by
  obtain ⟨a1, a2, a3⟩ := a
  obtain ⟨c1, c2, c3⟩ := b
  revert h hne; revert a1 a2 a3 c1 c2 c3; decide
def opnS (g : List Rr) (T : List UInt8 → Ot) : Nat := (g.map (fun y => opn (T y.name))).sum
theorem opnS_le {g : List Rr} {T T' : List UInt8 → Ot} (h : TLe T T') : opnS g T' ≤ opnS g T := by
  unfold opnS
  induction g with
  | nil => exact Nat.le_refl _
  | cons y g ih => simp only [List.map_cons, List.sum_cons]; have := opn_le (h y.name); omega
theorem opnS_lt {g : List Rr} {T T' : List UInt8 → Ot} (h : TLe T T') {y : Rr} (hy : y ∈ g) (hne : T y.name ≠ T' y.name) : opnS g T' < opnS g T := by
  unfold opnS
  induction g with
  | nil => cases hy
  | cons x g ih =>
    simp only [List.map_cons, List.sum_cons]
    have h1 := opn_le (h x.name)
    have h2 : (g.map (fun y => opn (T' y.name))).sum ≤ (g.map (fun y => opn (T y.name))).sum := opnS_le (g := g) h
    rcases List.mem_cons.1 hy with rfl | hy
    · have := opn_lt (h y.name) hne; omega
    · have := ih hy; omega
end Go.Proofs.YtjlcoldnhbkcgaaGreatDoor
namespace Go.Proofs.YtjlcoldnhbkcgaaGreatDoor
open Go.RowKit Go.Sort Go.Maps

theorem map_so : Tryz.prog.underlying 63 = some (.map 9 32) := by kernel_rfl
/-- How an answer reads. -/
def otD (o : Ot) : DataW Unit := .agg [.lit (.bool o.z), .lit (.bool o.s), .lit (.bool o.f)]
def outElem : Value → Option (DataW Unit × List MemPlace)
  | .agg cs => match cs.toList with
    | [.bool a, .bool b, .bool c] => some (otD ⟨a, b, c⟩, [])
    | _ => none
  | _ => none
theorem outElem_mk (o : Ot) : outElem (.agg (otC o).toArray) = some (otD o, []) := rfl
theorem otD_inj {a b : Ot} (h : otD a = otD b) : a = b := by
  obtain ⟨a1, a2, a3⟩ := a
  obtain ⟨b1, b2, b3⟩ := b
  unfold otD at h
  injection h with h
  injection h with h1 h
  injection h with h2 h
  injection h with h3 h
  injection h1 with h1
  injection h1 with h1
  injection h2 with h2
  injection h2 with h2
  injection h3 with h3
  injection h3 with h3
  subst h1 h2 h3
  rfl
theorem outElem_inv {v : Value} {o : Ot} {ps : List MemPlace} (h : outElem v = some (otD o, ps)) : v = .agg (otC o).toArray := by
  unfold outElem at h
  split at h
  · rename_i cs
    split at h
    · rename_i a b c hc
      injection h with h
      injection h with h1 h2
      have := otD_inj h1
      subst this
      rw [show cs = cs.toList.toArray from (Array.toArray_toList).symm, hc]
      rfl
    · cases h
  · cases h
theorem zero_out (w : World) : (zeroValue 32).run Tryz.prog w = .ok (.agg (otC ot0).toArray) w := by kernel_rfl
/-- The map holds the table. -/
def TabD (T : List UInt8 → Ot) (D : DataW Unit) : Prop := ∀ n : List UInt8, D.atKey (.string n) (otD ot0) = otD (T n)
theorem tab_nil : TabD (fun _ => ot0) (.map []) := fun _ => rfl
theorem tab_put {T : List UInt8 → Ot} {D : DataW Unit} (h : TabD T D) (hD : IsMap D) (n : List UInt8) (o : Ot) : TabD (upd T n o) (D.put (.string n) (otD o)) := fun m => by
  unfold upd
  by_cases hn : m = n
  · subst hn
    rw [if_pos rfl]
    exact atKey_put_same hD (by trivial) _ _
  · rw [if_neg hn, atKey_put_other (name_ne hn)]
    exact h m
/-- What a block says of a table. -/
def Tab (w : World) (b n : Nat) (T : List UInt8 → Ot) : Prop := ∃ D, w.ownsMap Tryz.prog 9 outElem b n D ∧ TabD T D
theorem Tab.lt {w : World} {b n : Nat} {T : List UInt8 → Ot} (h : Tab w b n T) : b < w.heap.size := by
  obtain ⟨D, h, _⟩ := h
  exact h.lt
theorem Tab.same {w w' : World} {b n : Nat} {T : List UInt8 → Ot} (h : Tab w b n T) (e : w'.heap[b]? = w.heap[b]?) : Tab w' b n T := by
  obtain ⟨D, ⟨es, clock, hb, hr⟩, h2⟩ := h
  exact ⟨D, ⟨es, clock, e.trans hb, hr⟩, h2⟩
theorem Tab.below {w w' : World} {b n : Nat} {T : List UInt8 → Ot} (h : Tab w b n T) (hb : Below w.heap.size w w') : Tab w' b n T := h.same (hb.block b h.lt)
theorem Tab.alloc {w : World} {b n : Nat} {T : List UInt8 → Ot} (h : Tab w b n T) (o : Obj) : Tab (w.alloc o) b n T := h.same (RowKit.Below.heap_alloc _ _ _ h.lt)
theorem Tab.mono {w : World} {b n n' : Nat} {T : List UInt8 → Ot} (h : Tab w b n T) (hn : n ≤ n') : Tab w b n' T := by
  obtain ⟨D, h1, h2⟩ := h
  exact ⟨D, h1.mono hn, h2⟩
theorem Tab.look {w : World} {b n : Nat} {T : List UInt8 → Ot} (h : Tab w b n T) {l : List UInt8} (hl : l.length ≤ 1000000) : (Instr.lookup 63 (.map (some b)) (.string (mkS l)) false).run Tryz.prog w = .ok (.agg (otC (T l)).toArray) w := by
  obtain ⟨D, h1, h2⟩ := h
  obtain ⟨v, ps, hrun, hv⟩ := h1.lookup str_law map_so (zero_out w) (outElem_mk ot0) (key_name hl)
  rw [h2 l] at hv
  rw [hrun, outElem_inv hv]
theorem Tab.put {w : World} {b n : Nat} {T : List UInt8 → Ot} (h : Tab w b n T) {l : List UInt8} (hl : l.length ≤ 1000000) (hn : n < maxLen) (o : Ot) : ∃ w', (Instr.mapUpdate 63 (.map (some b)) (.string (mkS l)) (.agg (otC o).toArray)).run Tryz.prog w = .ok () w' ∧ Tab w' b (n + 1) (upd T l o) ∧ w.grownBy w' (some b) := by
  obtain ⟨D, h1, h2⟩ := h
  obtain ⟨w', hrun, hown, hg⟩ := h1.update str_law map_so hn (key_name hl) (outElem_mk o)
  exact ⟨w', hrun, ⟨_, hown, tab_put h2 h1.isMap l o⟩, hg⟩
/-- The table in a block, by its block. -/
noncomputable def tabOf (w : World) (b : Nat) : List UInt8 → Ot := fun l => by
  classical
  exact if h : ∃ T, (∃ n, Tab w b n T) then (Classical.choose h) l else ot0
theorem Tab.det {w : World} {b n n' : Nat} {T T' : List UInt8 → Ot} (h : Tab w b n T) (h' : Tab w b n' T') : T = T' := by
  obtain ⟨D, ⟨es, cl, hb, _, _, hD⟩, h2⟩ := h
  obtain ⟨D', ⟨es', cl', hb', _, _, hD'⟩, h2'⟩ := h'
  rw [hb] at hb'
  injection hb' with hb'
  injection hb' with e1 e2
  subst e1
  rw [← hD] at hD'
  subst hD'
  funext l
  exact otD_inj ((h2 l).symm.trans (h2' l))
theorem Tab.of {w : World} {b n : Nat} {T : List UInt8 → Ot} (h : Tab w b n T) : tabOf w b = T := by
  funext l
  unfold tabOf
  have hx : ∃ T, ∃ n, Tab w b n T := ⟨T, n, h⟩
  rw [dif_pos hx]
  obtain ⟨n', h'⟩ := Classical.choose_spec hx
  rw [Tab.det h' h]
end Go.Proofs.YtjlcoldnhbkcgaaGreatDoor
namespace Go.Proofs.YtjlcoldnhbkcgaaGreatDoor
open Go.RowKit Go.Sort

/-- expr of a tree by a table. -/
def ExC (m : Nat) (T : List UInt8 → Ot) (n : Tr) : Prop := ∀ (w : World) (P : Nat → Prop) (cs : List Value) (c : Nat), Tab w m c T → RepA w P n cs → (∀ b, P b → b < w.heap.size) → Calls Tryz.prog 26 #[.map (some m), .agg cs.toArray] w (Ans (.agg (otC (exT T n)).toArray) w)
set_option maxRecDepth 100000 in
set_option maxHeartbeats 6400000 in
theorem nexpr_k1 (m : Nat) {t : List UInt8} {c : BitVec 256} {a : Option Addr} {n cap : Nat} {p : Int} (w : World) : Calls Tryz.prog 26 #[.map (some m), .agg (trC 1 t c (.slice a n cap) p).toArray] w (Ans (.agg (otC ⟨true, false, false⟩).toArray) w) := by
  have hm1 := cell_alloc_lt
  dsimp only [trC]
  go_enter Tryz.func26, Tryz.ntmps26
  repeat (first | go_values | go_skip | go_guarded | go_step | go_upon)
  refine bodyPost_ret (by simp [results, Tryz.results26, go_sem]; rfl) rfl ⟨?_, (by repeat (first | exact Below.refl _ _ | assumption | refine bal ?_ _ | refine bdr ?_ | refine bdrn ?_ _ | (refine bset ?_ (by first | exact Nat.le_refl _ | (simp; done) | (simp; omega) | omega) _) | refine bstep ?_ (by assumption)))⟩
  rfl
set_option maxRecDepth 100000 in
set_option maxHeartbeats 6400000 in
theorem nexpr_k2 (m : Nat) {t : List UInt8} {c : BitVec 256} {a : Option Addr} {n cap : Nat} {p : Int} (w : World) (q : Bool) (hq : t.isEmpty = q) : Calls Tryz.prog 26 #[.map (some m), .agg (trC 2 t c (.slice a n cap) p).toArray] w (Ans (.agg (otC ⟨q, !q, !q⟩).toArray) w) := by
  have hm1 := cell_alloc_lt
  have s1 : ((mkS t).toList == []) = q := by rw [Go.ByteArray.toList_eq, mkS_data, ← hq]; cases t <;> rfl
  dsimp only [trC]
  cases q
  all_goals
    go_enter Tryz.func26, Tryz.ntmps26
    repeat (first | go_values | go_skip | go_guarded | go_step | go_upon)
    refine bodyPost_ret (by simp [results, Tryz.results26, go_sem]; rfl) rfl ⟨?_, (by repeat (first | exact Below.refl _ _ | assumption | refine bal ?_ _ | refine bdr ?_ | refine bdrn ?_ _ | (refine bset ?_ (by first | exact Nat.le_refl _ | (simp; done) | (simp; omega) | omega) _) | refine bstep ?_ (by assumption)))⟩
    rfl
set_option maxRecDepth 100000 in
set_option maxHeartbeats 6400000 in
theorem nexpr_k3 (m : Nat) {t : List UInt8} {c : BitVec 256} {a : Option Addr} {n cap : Nat} {p : Int} (w : World) : Calls Tryz.prog 26 #[.map (some m), .agg (trC 3 t c (.slice a n cap) p).toArray] w (Ans (.agg (otC ⟨false, !(c == 0#256), true⟩).toArray) w) := by
  have hm1 := cell_alloc_lt
  have f7 := guard_cl
  obtain ⟨q, hq⟩ : ∃ q, (c == 0#256) = q := ⟨_, rfl⟩
  have f8 : ∀ w, (Op.equalIn 10000 37 (.agg #[.int .u64 (wd c 0), .int .u64 (wd c 1), .int .u64 (wd c 2), .int .u64 (wd c 3)]) (.agg #[.int .u64 0, .int .u64 0, .int .u64 0, .int .u64 0])).run Tryz.prog w = .ok q w := fun w => by
    have h := equal_cl w c 0#256
    rw [hq] at h
    simpa only [wd_zero] using h
  rw [hq]
  clear hq
  dsimp only [trC]
  go_enter Tryz.func26, Tryz.ntmps26
  repeat (first | go_values | go_skip | go_guarded | go_step | go_upon)
  refine bodyPost_ret (by simp [results, Tryz.results26, go_sem]; rfl) rfl ⟨?_, (by repeat (first | exact Below.refl _ _ | assumption | refine bal ?_ _ | refine bdr ?_ | refine bdrn ?_ _ | (refine bset ?_ (by first | exact Nat.le_refl _ | (simp; done) | (simp; omega) | omega) _) | refine bstep ?_ (by assumption)))⟩
  rfl
set_option maxRecDepth 100000 in
set_option maxHeartbeats 6400000 in
theorem nexpr_k4 (m : Nat) {t : List UInt8} {c : BitVec 256} {a : Option Addr} {n cap : Nat} {p : Int} (w : World) : Calls Tryz.prog 26 #[.map (some m), .agg (trC 4 t c (.slice a n cap) p).toArray] w (Ans (.agg (otC ⟨false, true, true⟩).toArray) w) := by
  have hm1 := cell_alloc_lt
  dsimp only [trC]
  go_enter Tryz.func26, Tryz.ntmps26
  repeat (first | go_values | go_skip | go_guarded | go_step | go_upon)
  refine bodyPost_ret (by simp [results, Tryz.results26, go_sem]; rfl) rfl ⟨?_, (by repeat (first | exact Below.refl _ _ | assumption | refine bal ?_ _ | refine bdr ?_ | refine bdrn ?_ _ | (refine bset ?_ (by first | exact Nat.le_refl _ | (simp; done) | (simp; omega) | omega) _) | refine bstep ?_ (by assumption)))⟩
  rfl
set_option maxRecDepth 100000 in
set_option maxHeartbeats 6400000 in
theorem nexpr_k5 (m : Nat) {T : List UInt8 → Ot} {t : List UInt8} {c : BitVec 256} {a : Option Addr} {n cap z : Nat} {p : Int} (w : World) (hT : Tab w m z T) (ht : t.length ≤ 1000000) : Calls Tryz.prog 26 #[.map (some m), .agg (trC 5 t c (.slice a n cap) p).toArray] w (Ans (.agg (otC (T t)).toArray) w) := by
  have hm1 := cell_alloc_lt
  have hrun := (((hT.alloc (.cells (trC 5 t c (.slice a n cap) p).toArray 40)).alloc (.cells (otC ot0).toArray 32)).alloc (.cells (otC ot0).toArray 32)).look ht
  obtain ⟨o, ho⟩ : ∃ o, T t = o := ⟨_, rfl⟩
  rw [ho] at hrun ⊢
  obtain ⟨a1, a2, a3⟩ := o
  clear hT ht ho
  dsimp only [trC, otC, ot0] at hrun ⊢
  go_enter Tryz.func26, Tryz.ntmps26
  repeat (first | go_values | go_skip | go_guarded | go_step | go_upon)
  refine bodyPost_ret (by simp [results, Tryz.results26, go_sem]; rfl) rfl ⟨?_, (by repeat (first | exact Below.refl _ _ | assumption | refine bal ?_ _ | refine bdr ?_ | refine bdrn ?_ _ | (refine bset ?_ (by first | exact Nat.le_refl _ | (simp; done) | (simp; omega) | omega) _) | refine bstep ?_ (by assumption)))⟩
  rfl
end Go.Proofs.YtjlcoldnhbkcgaaGreatDoor
namespace Go.Proofs.YtjlcoldnhbkcgaaGreatDoor
open Go.RowKit Go.Sort

/-- A block that holds an answer. -/
def Obk (b : Nat) (o : Ot) (w : World) : Prop := w.heap[b]? = some (.cells (otC o).toArray 32 (0, 0))
theorem Obk.cells {b : Nat} {o : Ot} {w : World} (h : Obk b o w) : w.cell? ⟨b, 0, none⟩ = some (.bool o.z) ∧ w.cell? ⟨b, 1, none⟩ = some (.bool o.s) ∧ w.cell? ⟨b, 2, none⟩ = some (.bool o.f) ∧ (∀ j, w.frozen? ⟨b, j, none⟩ = false) ∧ b < w.heap.size := by
  obtain ⟨h1, h2, h3⟩ := cells_at h
  exact ⟨h1 0, h1 1, h1 2, h2, h3⟩
theorem Obk.below {b : Nat} {o : Ot} {w w' : World} (h : Obk b o w) (hb : Below w.heap.size w w') : Obk b o w' := (hb.block b h.cells.2.2.2.2).trans h
theorem Obk.set {b : Nat} {o : Ot} {w : World} (h : Obk b o w) (z s f : Bool) : Obk b ⟨z, s, f⟩ (((w.setCell ⟨b, 0, none⟩ (.bool z)).setCell ⟨b, 1, none⟩ (.bool s)).setCell ⟨b, 2, none⟩ (.bool f)) :=
  heap_setCell_same _ b 2 _ _ _ (heap_setCell_same _ b 1 _ _ _ (heap_setCell_same _ b 0 _ _ _ h))
theorem Obk.set_ne {b c : Nat} {o : Ot} {w : World} (h : Obk b o w) (hne : b ≠ c) (x y v : Value) : Obk b o (((w.setCell ⟨c, 0, none⟩ x).setCell ⟨c, 1, none⟩ y).setCell ⟨c, 2, none⟩ v) := by
  unfold Obk
  rw [heap_setCell_other _ _ _ _ hne, heap_setCell_other _ _ _ _ hne, heap_setCell_other _ _ _ _ hne]
  exact h
end Go.Proofs.YtjlcoldnhbkcgaaGreatDoor
namespace Go.Proofs.YtjlcoldnhbkcgaaGreatDoor
open Go.RowKit Go.Sort

set_option maxRecDepth 100000 in
set_option maxHeartbeats 6400000 in
theorem behind_any (a b : Ot) (w : World) : Calls Tryz.prog 47 #[.agg (otC a).toArray, .agg (otC b).toArray] w (Ans (.agg (otC (otB a b)).toArray) w) := by
  obtain ⟨a1, a2, a3⟩ := a
  obtain ⟨b1, b2, b3⟩ := b
  have hm1 := cell_alloc_lt
  dsimp only [otC, otB]
  cases a1 <;> cases a2 <;> cases a3 <;> cases b1 <;> cases b2
  all_goals
    go_enter Tryz.func47, Tryz.ntmps47
    repeat (first | go_values | go_skip | go_guarded | go_step | go_upon)
    go_region
    repeat (first | go_values | go_skip | go_guarded | go_step | go_upon)
    refine bodyPost_ret (by simp [results, Tryz.results47, go_sem]; rfl) rfl ⟨?_, (by repeat (first | exact Below.refl _ _ | assumption | refine bal ?_ _ | refine bdr ?_ | refine bdrn ?_ _ | (refine bset ?_ (by first | exact Nat.le_refl _ | (simp; done) | (simp; omega) | omega) _) | refine bstep ?_ (by assumption)))⟩
    first | rfl | (simp; done)
end Go.Proofs.YtjlcoldnhbkcgaaGreatDoor
namespace Go.Proofs.YtjlcoldnhbkcgaaGreatDoor
open Go.RowKit Go.Sort

set_option maxRecDepth 100000 in
set_option maxHeartbeats 6400000 in
theorem nexpr_k6 (m : Nat) {T : List UInt8 → Ot} {t : List UInt8} {c : BitVec 256} {l : List Tr} {v : Value} {z : Nat} {p : Int} {P : Nat → Prop} (w : World) (hT : Tab w m z T) (hl : RepL w P l v) (hP : ∀ b, P b → b < w.heap.size) (hs : l.length ≤ 1000000000) (ih : ∀ x ∈ l, ExC m T x) : Calls Tryz.prog 26 #[.map (some m), .agg (trC 6 t c v p).toArray] w (Ans (.agg (otC (exS T ⟨true, false, false⟩ l)).toArray) w) := by
  obtain ⟨n, hn⟩ : ∃ n, n = l.length := ⟨_, rfl⟩
  obtain ⟨a, cap, rfl, hcap, _⟩ := hl.slice
  have HL := Lib.hid hl
  have HT := Lib.hid hT
  have HP := Lib.hid hP
  have HI := Lib.hid ih
  rw [← hn] at hcap hs HL ⊢
  have HN := Lib.hid hn
  have hm1 := cell_alloc_lt
  have HS := Lib.hid (show Obk (w.heap.size + 1 + 1) ⟨true, false, false⟩ (((w.alloc (.cells (trC 6 t c (.slice a n cap) p).toArray 40)).alloc (.cells (otC ot0).toArray 32)).alloc (.cells (otC ⟨true, false, false⟩).toArray 32)) from by
    have h := heap_alloc_new ((w.alloc (.cells (trC 6 t c (.slice a n cap) p).toArray 40)).alloc (.cells (otC ot0).toArray 32)) (.cells (otC ⟨true, false, false⟩).toArray 32)
    unfold Obk
    simpa using h)
  have HS2 := Lib.hid (show Obk (w.heap.size + 1) ot0 (((w.alloc (.cells (trC 6 t c (.slice a n cap) p).toArray 40)).alloc (.cells (otC ot0).toArray 32)).alloc (.cells (otC ⟨true, false, false⟩).toArray 32)) from by
    have h := heap_alloc_new (w.alloc (.cells (trC 6 t c (.slice a n cap) p).toArray 40)) (.cells (otC ot0).toArray 32)
    unfold Obk
    rw [RowKit.Below.heap_alloc _ _ _ (by simp)]
    simpa using h)
  clear hl hT hP ih hn
  dsimp only [trC, otC, ot0] at HS HS2 ⊢
  go_enter Tryz.func26, Tryz.ntmps26
  repeat (first | go_values | go_skip | go_guarded | go_step | go_upon)
  go_loopw [59] (fun tt wr => ∃ j : Nat, tt = .int .i64 (j : Int) ∧ j ≤ n ∧ Hid (Obk (w.heap.size + 1 + 1) (exS T ⟨true, false, false⟩ (l.take j)) wr) ∧ Hid (Obk (w.heap.size + 1) ot0 wr) ∧ Below w.heap.size w wr) (fun tt _ => n - (intOf tt).toNat)
  case atStart => exact ⟨0, rfl, Nat.zero_le _, HS, HS2, bal (bal (bal (Below.refl _ w) _) _) _⟩
  case round =>
    obtain ⟨j, rfl, hj, HO, HO2, hb⟩ := hrel
    have HW := Lib.hid hb
    have hz := hb.size
    by_cases hlt : j < n
    · have hlt2 : j < l.length := by rw [← HN.out]; exact hlt
      obtain ⟨y, hy⟩ : ∃ y, l[j]? = some y := ⟨l[j], List.getElem?_eq_getElem hlt2⟩
      have hmem := List.mem_of_getElem? hy
      rcases HL.out.parts with ⟨e, _⟩ | ⟨e, _⟩ | ⟨gg, o, cap', e, hgg, _, hcp, hmx, hr⟩
      · rw [e] at hlt2; simp at hlt2
      · rw [e] at hlt2; simp at hlt2
      · obtain rfl : a = some ⟨gg, o, none⟩ := by injection e
        have hr1 := hr.mono (w' := wr) (P' := P) (fun b' hb' => HW.out.block b' (HP.out b' hb')) (fun _ h => h) hgg
        obtain ⟨k1, t1, x1, sa, sn, sc, p1, l1, eb, q0, _, a0, a1, a2, a3, a4, a5, a6, a7⟩ := hr1.get hy
        have d1 : decide ((j : Int) < n) = true := by simpa using hlt
        have k5 : IntKind.i64.wrap ((j : Int) + 1) = (j : Int) + 1 := by rw [IntKind.wrap_i64]; omega
        have hIH := HI.out y hmem
        have q1 : ∀ w', Below wr.heap.size wr w' → RepA w' P y (trC k1 t1 x1 (.slice sa sn sc) p1) := fun w' h => q0.mono (fun b' hb' => h.block b' (Nat.lt_of_lt_of_le (HP.out b' hb') hz)) (fun _ h => h)
        have HX := Lib.hid (fun (w' : World) (h : Below wr.heap.size wr w') => hIH w' P _ z ((HT.out.below HW.out).below h) (q1 w' h) (fun b' hb' => by have h1 := HP.out b' hb'; have h2 := h.size; omega))
        have hE := Lib.hid (show exS T ⟨true, false, false⟩ (l.take (j + 1)) = otB (exS T ⟨true, false, false⟩ (l.take j)) (exT T y) by
          rw [show l.take (j + 1) = l.take j ++ [y] from by rw [List.take_add_one, hy]; rfl]
          exact exS_snoc T _ _ _)
        obtain ⟨o1, ho1⟩ : ∃ o1, o1 = exS T ⟨true, false, false⟩ (l.take j) := ⟨_, rfl⟩
        obtain ⟨o2, ho2⟩ : ∃ o2, o2 = exT T y := ⟨_, rfl⟩
        rw [← ho1] at HO hE
        rw [← ho2] at HX hE
        obtain ⟨o3, ho3⟩ : ∃ o3, o3 = otB o1 o2 := ⟨_, rfl⟩
        rw [← ho3] at hE
        have HF := Lib.hid (fun w' => behind_any o1 o2 w')
        rw [← ho3] at HF
        clear eb e hr hr1 q0 q1 hIH ho1 ho2 ho3 hy hmem
        obtain ⟨b1, b2, b3⟩ := o1
        obtain ⟨e1, e2, e3⟩ := o2
        obtain ⟨f1, f2, f3⟩ := o3
        obtain ⟨c0, c1, c2, c3, c4⟩ := HO.out.cells
        obtain ⟨_, _, _, _, c5⟩ := HO2.out.cells
        have HW0 := Lib.hid (show Below wr.heap.size wr (wr.alloc (.cells #[.int .i64 k1, .string (mkS t1), .int .u64 (wd x1 0), .int .u64 (wd x1 1), .int .u64 (wd x1 2), .int .u64 (wd x1 3), .slice sa sn sc, .int .i64 p1] 40)) from bal (Below.refl _ wr) _)
        dsimp only [trC, otC] at HX HF c0 c1 c2
        clear hb
        repeat (first | go_values | go_skip | go_guarded | go_step | go_upon)
        go_region_with (first | (go_at_call 26; refine (HX.out _ (bdr HW0.out)).mono ?_; rintro e w2 ⟨rfl, hb2⟩; have kb2 := (HW0.out.drew).trans (hb2.mono (by simp)); have k2 := HO.out.below kb2; have k2' := HO2.out.below kb2; obtain ⟨u0, u1, u2, u3, u4⟩ := k2.cells; dsimp only at u0 u1 u2; try dsimp only) | (go_at_call 47; refine (HF.out _).mono ?_; rintro e w3 ⟨rfl, hb3⟩; have kb3 := kb2.trans (hb3.mono (by have := kb2.size; exact this)); have k3 := HO.out.below kb3; have k3' := HO2.out.below kb3; obtain ⟨v0, v1, v2, v3, v4⟩ := k3.cells; dsimp only at v0 v1 v2; try dsimp only))
        all_goals
          repeat (first | go_values | go_skip | go_guarded | go_step | go_upon)
          exact ⟨⟨j + 1, by go_num, by omega, Lib.hid (by rw [hE.out]; exact k3.set _ _ _), Lib.hid (k3'.set_ne (by omega) _ _ _), (((HW.out.trans (kb3.mono hz)).setCell (by simp; omega) _).setCell (by simp; omega) _).setCell (by simp; omega) _⟩, by simp [intOf]; omega⟩
    · have d1 : decide ((j : Int) < n) = false := by simpa using hlt
      obtain rfl : j = n := by omega
      have ho1 : l.take j = l := by rw [HN.out, List.take_length]
      rw [ho1] at HO
      obtain ⟨o1, ho1⟩ : ∃ o1, o1 = exS T ⟨true, false, false⟩ l := ⟨_, rfl⟩
      rw [← ho1] at HO
      obtain ⟨b1, b2, b3⟩ := o1
      have HE := Lib.hid ho1
      obtain ⟨c0, c1, c2, c3, c4⟩ := HO.out.cells
      obtain ⟨s0, s1, s2, s3, s4⟩ := HO2.out.cells
      clear hlt ho1 hb
      dsimp only [otC] at c0 c1 c2
      repeat (first | go_values | go_skip | go_guarded | go_step | go_upon)
      refine bodyPost_ret (v := .agg #[.bool b1, .bool b2, .bool b3]) (by simp [results, Tryz.results26, go_sem, s0, s1, s2]; done) rfl ⟨by rw [← HE.out], ?_⟩
      exact ((HW.out.setCell (by simp) _).setCell (by simp) _).setCell (by simp) _
end Go.Proofs.YtjlcoldnhbkcgaaGreatDoor
namespace Go.Proofs.YtjlcoldnhbkcgaaGreatDoor
open Go.RowKit Go.Sort

set_option maxRecDepth 100000 in
set_option maxHeartbeats 6400000 in
theorem instead_any (a b : Ot) (w : World) : Calls Tryz.prog 48 #[.agg (otC a).toArray, .agg (otC b).toArray] w (Ans (.agg (otC (otI a b)).toArray) w) := by
  obtain ⟨a1, a2, a3⟩ := a
  obtain ⟨b1, b2, b3⟩ := b
  have hm1 := cell_alloc_lt
  dsimp only [otC, otI]
  cases a3 with
  | false =>
    go_enter Tryz.func48, Tryz.ntmps48
    repeat (first | go_values | go_skip | go_guarded | go_step | go_upon)
    exact bodyPost_ret (v := .agg #[.bool a1, .bool a2, .bool false]) (by simp [results, Tryz.results48, go_sem]) rfl ⟨rfl, (by repeat (first | exact Below.refl _ _ | assumption | refine bal ?_ _ | refine bdr ?_ | refine bdrn ?_ _ | (refine bset ?_ (by first | exact Nat.le_refl _ | (simp; done) | (simp; omega) | omega) _) | refine bstep ?_ (by assumption)))⟩
  | true =>
    cases a1 <;> cases a2
    all_goals
      go_enter Tryz.func48, Tryz.ntmps48
      repeat (first | go_values | go_skip | go_guarded | go_step | go_upon)
      refine bodyPost_ret (by simp [results, Tryz.results48, go_sem]; rfl) rfl ⟨?_, (by repeat (first | exact Below.refl _ _ | assumption | refine bal ?_ _ | refine bdr ?_ | refine bdrn ?_ _ | (refine bset ?_ (by first | exact Nat.le_refl _ | (simp; done) | (simp; omega) | omega) _) | refine bstep ?_ (by assumption)))⟩
      rfl
set_option maxRecDepth 100000 in
set_option maxHeartbeats 6400000 in
theorem alone_any (k : Int) (a : Ot) (w : World) : Calls Tryz.prog 49 #[.int .i64 k, .agg (otC a).toArray] w (Ans (.agg (otC (otA k a)).toArray) w) := by
  obtain ⟨a1, a2, a3⟩ := a
  have hm1 := cell_alloc_lt
  by_cases h8 : k = 8
  · subst h8
    cases a1 <;> cases a2
    all_goals
      dsimp only [otC]
      go_enter Tryz.func49, Tryz.ntmps49
      repeat (first | go_values | go_skip | go_guarded | go_step | go_upon)
      refine bodyPost_ret (by simp [results, Tryz.results49, go_sem]; rfl) rfl ⟨?_, (by repeat (first | exact Below.refl _ _ | assumption | refine bal ?_ _ | refine bdr ?_ | refine bdrn ?_ _ | (refine bset ?_ (by first | exact Nat.le_refl _ | (simp; done) | (simp; omega) | omega) _) | refine bstep ?_ (by assumption)))⟩
      first | rfl | (simp [otA, otC]; done)
  · by_cases h9 : k = 9
    · subst h9
      cases a1 <;> cases a2
      all_goals
        dsimp only [otC]
        go_enter Tryz.func49, Tryz.ntmps49
        repeat (first | go_values | go_skip | go_guarded | go_step | go_upon)
        refine bodyPost_ret (by simp [results, Tryz.results49, go_sem]; rfl) rfl ⟨?_, (by repeat (first | exact Below.refl _ _ | assumption | refine bal ?_ _ | refine bdr ?_ | refine bdrn ?_ _ | (refine bset ?_ (by first | exact Nat.le_refl _ | (simp; done) | (simp; omega) | omega) _) | refine bstep ?_ (by assumption)))⟩
        first | rfl | (simp [otA, otC]; done)
    · by_cases h10 : k = 10
      · subst h10
        cases a1 <;> cases a2
        all_goals
          dsimp only [otC]
          go_enter Tryz.func49, Tryz.ntmps49
          repeat (first | go_values | go_skip | go_guarded | go_step | go_upon)
          refine bodyPost_ret (by simp [results, Tryz.results49, go_sem]; rfl) rfl ⟨?_, (by repeat (first | exact Below.refl _ _ | assumption | refine bal ?_ _ | refine bdr ?_ | refine bdrn ?_ _ | (refine bset ?_ (by first | exact Nat.le_refl _ | (simp; done) | (simp; omega) | omega) _) | refine bstep ?_ (by assumption)))⟩
          first | rfl | (simp [otA, otC]; done)
      · by_cases h11 : k = 11
        · subst h11
          cases a1 <;> cases a2
          all_goals
            dsimp only [otC]
            go_enter Tryz.func49, Tryz.ntmps49
            repeat (first | go_values | go_skip | go_guarded | go_step | go_upon)
            refine bodyPost_ret (by simp [results, Tryz.results49, go_sem]; rfl) rfl ⟨?_, (by repeat (first | exact Below.refl _ _ | assumption | refine bal ?_ _ | refine bdr ?_ | refine bdrn ?_ _ | (refine bset ?_ (by first | exact Nat.le_refl _ | (simp; done) | (simp; omega) | omega) _) | refine bstep ?_ (by assumption)))⟩
            first | rfl | (simp [otA, otC]; done)
        · by_cases h12 : k = 12
          · subst h12
            cases a1 <;> cases a2
            all_goals
              dsimp only [otC]
              go_enter Tryz.func49, Tryz.ntmps49
              repeat (first | go_values | go_skip | go_guarded | go_step | go_upon)
              refine bodyPost_ret (by simp [results, Tryz.results49, go_sem]; rfl) rfl ⟨?_, (by repeat (first | exact Below.refl _ _ | assumption | refine bal ?_ _ | refine bdr ?_ | refine bdrn ?_ _ | (refine bset ?_ (by first | exact Nat.le_refl _ | (simp; done) | (simp; omega) | omega) _) | refine bstep ?_ (by assumption)))⟩
              first | rfl | (simp [otA, otC]; done)
          · have d8 : (k == 8) = false := by simpa using h8
            have d9 : (k == 9) = false := by simpa using h9
            have d10 : (k == 10) = false := by simpa using h10
            have d11 : (k == 11) = false := by simpa using h11
            have d12 : (k == 12) = false := by simpa using h12
            have HO := Lib.hid (show otA k ⟨a1, a2, a3⟩ = ot0 by simp [otA, h8, h9, h10, h11, h12])
            clear h8 h9 h10 h11 h12
            cases a1
            all_goals
              dsimp only [otC]
              go_enter Tryz.func49, Tryz.ntmps49
              repeat (first | go_values | go_skip | go_guarded | go_step | go_upon)
              refine bodyPost_ret (by simp [results, Tryz.results49, go_sem]; rfl) rfl ⟨?_, (by repeat (first | exact Below.refl _ _ | assumption | refine bal ?_ _ | refine bdr ?_ | refine bdrn ?_ _ | (refine bset ?_ (by first | exact Nat.le_refl _ | (simp; done) | (simp; omega) | omega) _) | refine bstep ?_ (by assumption)))⟩
              rw [HO.out]
              rfl
end Go.Proofs.YtjlcoldnhbkcgaaGreatDoor
namespace Go.Proofs.YtjlcoldnhbkcgaaGreatDoor
open Go.RowKit Go.Sort

set_option maxRecDepth 100000 in
set_option maxHeartbeats 6400000 in
theorem nexpr_k7 (m : Nat) {T : List UInt8 → Ot} {t : List UInt8} {c : BitVec 256} {l : List Tr} {v : Value} {z : Nat} {p : Int} {P : Nat → Prop} (w : World) (hT : Tab w m z T) (hl : RepL w P l v) (hP : ∀ b, P b → b < w.heap.size) (hs : l.length ≤ 1000000000) (ih : ∀ x ∈ l, ExC m T x) : Calls Tryz.prog 26 #[.map (some m), .agg (trC 7 t c v p).toArray] w (Ans (.agg (otC (exO T ⟨false, false, true⟩ l)).toArray) w) := by
  obtain ⟨n, hn⟩ : ∃ n, n = l.length := ⟨_, rfl⟩
  obtain ⟨a, cap, rfl, hcap, _⟩ := hl.slice
  have HL := Lib.hid hl
  have HT := Lib.hid hT
  have HP := Lib.hid hP
  have HI := Lib.hid ih
  rw [← hn] at hcap hs HL ⊢
  have HN := Lib.hid hn
  have hm1 := cell_alloc_lt
  have HS := Lib.hid (show Obk (w.heap.size + 1 + 1) ⟨false, false, true⟩ (((w.alloc (.cells (trC 7 t c (.slice a n cap) p).toArray 40)).alloc (.cells (otC ot0).toArray 32)).alloc (.cells (otC ⟨false, false, true⟩).toArray 32)) from by
    have h := heap_alloc_new ((w.alloc (.cells (trC 7 t c (.slice a n cap) p).toArray 40)).alloc (.cells (otC ot0).toArray 32)) (.cells (otC ⟨false, false, true⟩).toArray 32)
    unfold Obk
    simpa using h)
  have HS2 := Lib.hid (show Obk (w.heap.size + 1) ot0 (((w.alloc (.cells (trC 7 t c (.slice a n cap) p).toArray 40)).alloc (.cells (otC ot0).toArray 32)).alloc (.cells (otC ⟨false, false, true⟩).toArray 32)) from by
    have h := heap_alloc_new (w.alloc (.cells (trC 7 t c (.slice a n cap) p).toArray 40)) (.cells (otC ot0).toArray 32)
    unfold Obk
    rw [RowKit.Below.heap_alloc _ _ _ (by simp)]
    simpa using h)
  clear hl hT hP ih hn
  dsimp only [trC, otC, ot0] at HS HS2 ⊢
  go_enter Tryz.func26, Tryz.ntmps26
  repeat (first | go_values | go_skip | go_guarded | go_step | go_upon)
  go_loopw [75] (fun tt wr => ∃ j : Nat, tt = .int .i64 (j : Int) ∧ j ≤ n ∧ Hid (Obk (w.heap.size + 1 + 1) (exO T ⟨false, false, true⟩ (l.take j)) wr) ∧ Hid (Obk (w.heap.size + 1) ot0 wr) ∧ Below w.heap.size w wr) (fun tt _ => n - (intOf tt).toNat)
  case atStart => exact ⟨0, rfl, Nat.zero_le _, HS, HS2, bal (bal (bal (Below.refl _ w) _) _) _⟩
  case round =>
    obtain ⟨j, rfl, hj, HO, HO2, hb⟩ := hrel
    have HW := Lib.hid hb
    have hz := hb.size
    by_cases hlt : j < n
    · have hlt2 : j < l.length := by rw [← HN.out]; exact hlt
      obtain ⟨y, hy⟩ : ∃ y, l[j]? = some y := ⟨l[j], List.getElem?_eq_getElem hlt2⟩
      have hmem := List.mem_of_getElem? hy
      rcases HL.out.parts with ⟨e, _⟩ | ⟨e, _⟩ | ⟨gg, o, cap', e, hgg, _, hcp, hmx, hr⟩
      · rw [e] at hlt2; simp at hlt2
      · rw [e] at hlt2; simp at hlt2
      · obtain rfl : a = some ⟨gg, o, none⟩ := by injection e
        have hr1 := hr.mono (w' := wr) (P' := P) (fun b' hb' => HW.out.block b' (HP.out b' hb')) (fun _ h => h) hgg
        obtain ⟨k1, t1, x1, sa, sn, sc, p1, l1, eb, q0, _, a0, a1, a2, a3, a4, a5, a6, a7⟩ := hr1.get hy
        have d1 : decide ((j : Int) < n) = true := by simpa using hlt
        have k5 : IntKind.i64.wrap ((j : Int) + 1) = (j : Int) + 1 := by rw [IntKind.wrap_i64]; omega
        have hIH := HI.out y hmem
        have q1 : ∀ w', Below wr.heap.size wr w' → RepA w' P y (trC k1 t1 x1 (.slice sa sn sc) p1) := fun w' h => q0.mono (fun b' hb' => h.block b' (Nat.lt_of_lt_of_le (HP.out b' hb') hz)) (fun _ h => h)
        have HX := Lib.hid (fun (w' : World) (h : Below wr.heap.size wr w') => hIH w' P _ z ((HT.out.below HW.out).below h) (q1 w' h) (fun b' hb' => by have h1 := HP.out b' hb'; have h2 := h.size; omega))
        have hE := Lib.hid (show exO T ⟨false, false, true⟩ (l.take (j + 1)) = otI (exO T ⟨false, false, true⟩ (l.take j)) (exT T y) by
          rw [show l.take (j + 1) = l.take j ++ [y] from by rw [List.take_add_one, hy]; rfl]
          exact exO_snoc T _ _ _)
        obtain ⟨o1, ho1⟩ : ∃ o1, o1 = exO T ⟨false, false, true⟩ (l.take j) := ⟨_, rfl⟩
        obtain ⟨o2, ho2⟩ : ∃ o2, o2 = exT T y := ⟨_, rfl⟩
        rw [← ho1] at HO hE
        rw [← ho2] at HX hE
        obtain ⟨o3, ho3⟩ : ∃ o3, o3 = otI o1 o2 := ⟨_, rfl⟩
        rw [← ho3] at hE
        have HF := Lib.hid (fun w' => instead_any o1 o2 w')
        rw [← ho3] at HF
        clear eb e hr hr1 q0 q1 hIH ho1 ho2 ho3 hy hmem
        obtain ⟨b1, b2, b3⟩ := o1
        obtain ⟨e1, e2, e3⟩ := o2
        obtain ⟨f1, f2, f3⟩ := o3
        obtain ⟨c0, c1, c2, c3, c4⟩ := HO.out.cells
        obtain ⟨_, _, _, _, c5⟩ := HO2.out.cells
        have HW0 := Lib.hid (show Below wr.heap.size wr (wr.alloc (.cells #[.int .i64 k1, .string (mkS t1), .int .u64 (wd x1 0), .int .u64 (wd x1 1), .int .u64 (wd x1 2), .int .u64 (wd x1 3), .slice sa sn sc, .int .i64 p1] 40)) from bal (Below.refl _ wr) _)
        dsimp only [trC, otC] at HX HF c0 c1 c2
        clear hb
        repeat (first | go_values | go_skip | go_guarded | go_step | go_upon)
        go_region_with (first | (go_at_call 26; refine (HX.out _ (bdr HW0.out)).mono ?_; rintro e w2 ⟨rfl, hb2⟩; have kb2 := (HW0.out.drew).trans (hb2.mono (by simp)); have k2 := HO.out.below kb2; have k2' := HO2.out.below kb2; obtain ⟨u0, u1, u2, u3, u4⟩ := k2.cells; dsimp only at u0 u1 u2; try dsimp only) | (go_at_call 48; refine (HF.out _).mono ?_; rintro e w3 ⟨rfl, hb3⟩; have kb3 := kb2.trans (hb3.mono (by have := kb2.size; exact this)); have k3 := HO.out.below kb3; have k3' := HO2.out.below kb3; obtain ⟨v0, v1, v2, v3, v4⟩ := k3.cells; dsimp only at v0 v1 v2; try dsimp only))
        all_goals
          repeat (first | go_values | go_skip | go_guarded | go_step | go_upon)
          exact ⟨⟨j + 1, by go_num, by omega, Lib.hid (by rw [hE.out]; exact k3.set _ _ _), Lib.hid (k3'.set_ne (by omega) _ _ _), (((HW.out.trans (kb3.mono hz)).setCell (by simp; omega) _).setCell (by simp; omega) _).setCell (by simp; omega) _⟩, by simp [intOf]; omega⟩
    · have d1 : decide ((j : Int) < n) = false := by simpa using hlt
      obtain rfl : j = n := by omega
      have ho1 : l.take j = l := by rw [HN.out, List.take_length]
      rw [ho1] at HO
      obtain ⟨o1, ho1⟩ : ∃ o1, o1 = exO T ⟨false, false, true⟩ l := ⟨_, rfl⟩
      rw [← ho1] at HO
      obtain ⟨b1, b2, b3⟩ := o1
      have HE := Lib.hid ho1
      obtain ⟨c0, c1, c2, c3, c4⟩ := HO.out.cells
      obtain ⟨s0, s1, s2, s3, s4⟩ := HO2.out.cells
      clear hlt ho1 hb
      dsimp only [otC] at c0 c1 c2
      repeat (first | go_values | go_skip | go_guarded | go_step | go_upon)
      refine bodyPost_ret (v := .agg #[.bool b1, .bool b2, .bool b3]) (by simp [results, Tryz.results26, go_sem, s0, s1, s2]; done) rfl ⟨by rw [← HE.out], ?_⟩
      exact ((HW.out.setCell (by simp) _).setCell (by simp) _).setCell (by simp) _
end Go.Proofs.YtjlcoldnhbkcgaaGreatDoor
