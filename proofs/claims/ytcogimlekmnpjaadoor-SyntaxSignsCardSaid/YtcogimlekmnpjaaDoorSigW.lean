/- The walk of SyntaxSigns. -/
import Derived.Test.YtcogimlekmnpjaaDoorG24
import Derived.Test.YtcogimlekmnpjaaDoorG25
import Derived.Laws.Bits64b
import Derived.Deep.RegionHeld3
namespace Go.Proofs.YtcogimlekmnpjaaDoor
open Go.RowKit Go.Sort

theorem and3s (x : Int) : ∃ k : Nat, k ≤ 3 ∧ bits .and .i64 x 3 = (k : Int) := by
  have h := Nat.and_le_right (n := (BitVec.ofInt 64 x).toNat) (m := 3)
  refine ⟨_, h, ?_⟩
  show IntKind.i64.wrap ((BitVec.ofInt 64 x &&& BitVec.ofInt 64 3).toNat : Int) = _
  rw [BitVec.toNat_and, show (BitVec.ofInt 64 3).toNat = 3 from rfl]
  rw [IntKind.wrap_i64]
  omega
theorem sig_mk (l : List UInt8) : bl (mkS l) = l := by simp [bl, mkS]
theorem sig_app (A B : ByteArray) : bl (A ++ B) = bl A ++ bl B := by simp [bl, ByteArray.data_append]
theorem sig_bl {A B : ByteArray} {a b : Nat} (hA : bl A = sigA a) (hB : bl B = sigB b) : bl (⟨#[114, 32, 60, 45, 32]⟩ ++ A ++ ⟨#[98]⟩ ++ B) = sigL a b := by
  rw [sig_app, sig_app, sig_app, hA, hB]
  rfl
theorem sig_parse {A B : ByteArray} {a b : Nat} {W : World} (ha : a ≤ 2) (hb : b ≤ 3) (hA : bl A = sigA a) (hB : bl B = sigB b) (hg : Laid W) : Calls Tryd.prog 5 #[.string (⟨#[114, 32, 60, 45, 32]⟩ ++ A ++ ⟨#[98]⟩ ++ B)] W (fun e w' => (∃ gr cap p q, e = .returned (.tuple #[.agg #[.slice (some ⟨gr, 0, none⟩) 1 cap], .nilIface]) ∧ GRep w' (Fresh W w') [⟨[114], sigN a b p q, 0⟩] (.slice (some ⟨gr, 0, none⟩) 1 cap)) ∧ Below W.heap.size W w') := by
  obtain ⟨p, q, hr⟩ := sig_read ha hb
  have hbl := sig_bl hA hB
  have hl : (sigL a b).length ≤ 8 := by
    rcases (show a = 0 ∨ a = 1 ∨ a = 2 by omega) with rfl | rfl | rfl <;> rcases (show b = 0 ∨ b = 1 ∨ b = 2 ∨ b = 3 by omega) with rfl | rfl | rfl | rfl <;> decide
  refine (syn_inr _ W hg (by rw [← bl_length, hbl]; omega) (by rw [hbl]; exact hr)).mono ?_
  rintro e w' ⟨⟨v, e1, hG⟩, hb'⟩
  obtain ⟨gr, cap, _, _, rfl, _⟩ := hG.row (by simp)
  exact ⟨⟨gr, cap, p, q, e1, hG⟩, hb'⟩
/-- What Parse leaves of the source: one rule, its tree read. -/
structure SigV (a b : Nat) (s8 s9 : Value) (w : World) : Prop where
  nil : s9 = .nilIface
  var : ∃ g gr cap, s8 = .pointer (some ⟨g, 0, none⟩) ∧ w.cell? ⟨g, 0, none⟩ = some (.slice (some ⟨gr, 0, none⟩) 1 cap) ∧ g < w.heap.size ∧ ∃ p q P, GRep w P [⟨[114], sigN a b p q, 0⟩] (.slice (some ⟨gr, 0, none⟩) 1 cap) ∧ ∀ b, P b → b < w.heap.size
/-- What holds between the moves: the two literals' cells that are read, and the variable. -/
def SgS (w1 : World) (A B : Option (Nat × Nat × ByteArray)) (G : Option Nat) (w' : World) : Prop :=
  Below w1.heap.size w1 w' ∧ (match A with | none => True | some (b, i, s) => w'.cell? ⟨b, i, none⟩ = some (.string s)) ∧ (match B with | none => True | some (b, i, s) => w'.cell? ⟨b, i, none⟩ = some (.string s)) ∧ (match G with | none => True | some b => ∃ v, w'.heap[b]? = some (.cells #[v] 25 (0, 0)))
theorem SgS.size {w1 w' : World} {A B : Option (Nat × Nat × ByteArray)} {G : Option Nat} (h : SgS w1 A B G w') : w1.heap.size ≤ w'.heap.size := h.1.size
theorem sgs_start (w1 : World) : SgS w1 none none none w1.drew := ⟨bdr (Below.refl _ w1), trivial, trivial, trivial⟩
theorem sgs_alloc {w1 w' : World} {A B : Option (Nat × Nat × ByteArray)} {G : Option Nat} (h : SgS w1 A B G w') (o : Obj) : SgS w1 A B G (w'.alloc o) := by
  obtain ⟨h1, h2, h3, h4⟩ := h
  refine ⟨h1.alloc h1.size o, ?_, ?_, ?_⟩
  · cases A with
    | none => trivial
    | some x => exact (cell_alloc_lt _ _ _ _ (World.block_lt_of_cell? _ _ h2)).trans h2
  · cases B with
    | none => trivial
    | some x => exact (cell_alloc_lt _ _ _ _ (World.block_lt_of_cell? _ _ h3)).trans h3
  · cases G with
    | none => trivial
    | some b =>
      obtain ⟨v, hv⟩ := h4
      exact ⟨v, (RowKit.Below.heap_alloc _ _ _ (Array.getElem?_eq_some_iff.1 hv).1).trans hv⟩
theorem sgs_call {w1 w' w2 : World} {A B : Option (Nat × Nat × ByteArray)} {G : Option Nat} (h : SgS w1 A B G w') (hb : Below w'.heap.size w' w2) : SgS w1 A B G w2 := by
  obtain ⟨h1, h2, h3, h4⟩ := h
  refine ⟨h1.trans (hb.mono h1.size), ?_, ?_, ?_⟩
  · cases A with
    | none => trivial
    | some x => exact (hb.cell (World.block_lt_of_cell? _ _ h2)).trans h2
  · cases B with
    | none => trivial
    | some x => exact (hb.cell (World.block_lt_of_cell? _ _ h3)).trans h3
  · cases G with
    | none => trivial
    | some b =>
      obtain ⟨v, hv⟩ := h4
      exact ⟨v, (hb.block _ (Array.getElem?_eq_some_iff.1 hv).1).trans hv⟩
theorem sgs_set {w1 w' : World} {A B : Option (Nat × Nat × ByteArray)} {g : Nat} (h : SgS w1 A B (some g) w') (hg : w1.heap.size ≤ g) (hA : ∀ b i s, A = some (b, i, s) → b ≠ g) (hB : ∀ b i s, B = some (b, i, s) → b ≠ g) (u : Value) : SgS w1 A B (some g) (w'.setCell ⟨g, 0, none⟩ u) := by
  obtain ⟨h1, h2, h3, v, h4⟩ := h
  refine ⟨h1.setCell hg u, ?_, ?_, ?_⟩
  · cases A with
    | none => trivial
    | some x => exact (cell_set_ne _ _ _ _ _ (hA _ _ _ rfl)).trans h2
  · cases B with
    | none => trivial
    | some x => exact (cell_set_ne _ _ _ _ _ (hB _ _ _ rfl)).trans h3
  · exact ⟨u, by have := heap_setCell_same _ g 0 _ _ u h4; simpa using this⟩
theorem sgs_newA {w1 w' : World} {B : Option (Nat × Nat × ByteArray)} {G : Option Nat} {c : Array Value} {t n a : Nat} {s : ByteArray} (e : c[a]? = some (.string s)) (h : SgS w1 none B G (w'.alloc (.cells c t))) (hn : n = w'.heap.size) : SgS w1 (some (n, a, s)) B G (w'.alloc (.cells c t)) := by
  subst hn
  exact ⟨h.1, ((cells_at (heap_alloc_new w' _)).1 a).trans e, h.2.2⟩
theorem sgs_newB {w1 w' : World} {A : Option (Nat × Nat × ByteArray)} {G : Option Nat} {c : Array Value} {t n a : Nat} {s : ByteArray} (e : c[a]? = some (.string s)) (h : SgS w1 A none G (w'.alloc (.cells c t))) (hn : n = w'.heap.size) : SgS w1 A (some (n, a, s)) G (w'.alloc (.cells c t)) := by
  subst hn
  exact ⟨h.1, h.2.1, ((cells_at (heap_alloc_new w' _)).1 a).trans e, h.2.2.2⟩
theorem sgs_newG {w1 w' : World} {A B : Option (Nat × Nat × ByteArray)} {v : Value} {n : Nat} (h : SgS w1 A B none (w'.alloc (.cells #[v] 25))) (hn : n = w'.heap.size) : SgS w1 A B (some n) (w'.alloc (.cells #[v] 25)) := by
  subst hn
  exact ⟨h.1, h.2.1, h.2.2.1, v, heap_alloc_new w' _⟩
theorem sgs_newAd {w1 w' : World} {B : Option (Nat × Nat × ByteArray)} {G : Option Nat} {c : Array Value} {t n a : Nat} {s : ByteArray} (e : c[a]? = some (.string s)) (h : SgS w1 none B G (w'.alloc (.cells c t)).drew) (hn : n = w'.heap.size) : SgS w1 (some (n, a, s)) B G (w'.alloc (.cells c t)).drew := by
  subst hn
  exact ⟨h.1, ((cells_at (heap_alloc_new w' _)).1 a).trans e, h.2.2⟩
theorem sgs_newBd {w1 w' : World} {A : Option (Nat × Nat × ByteArray)} {G : Option Nat} {c : Array Value} {t n a : Nat} {s : ByteArray} (e : c[a]? = some (.string s)) (h : SgS w1 A none G (w'.alloc (.cells c t)).drew) (hn : n = w'.heap.size) : SgS w1 A (some (n, a, s)) G (w'.alloc (.cells c t)).drew := by
  subst hn
  exact ⟨h.1, h.2.1, ((cells_at (heap_alloc_new w' _)).1 a).trans e, h.2.2.2⟩
theorem sgs_newGd {w1 w' : World} {A B : Option (Nat × Nat × ByteArray)} {v : Value} {n : Nat} (h : SgS w1 A B none (w'.alloc (.cells #[v] 25)).drew) (hn : n = w'.heap.size) : SgS w1 A B (some n) (w'.alloc (.cells #[v] 25)).drew := by
  subst hn
  exact ⟨h.1, h.2.1, h.2.2.1, v, heap_alloc_new w' _⟩
theorem sgs_put {w1 w2 : World} {A B : Option (Nat × Nat × ByteArray)} {u : Value} (h : SgS w1 A B none w2) : SgS w1 A B (some w2.heap.size) (w2.alloc (.cells #[u] 25)) := by
  have h3 := sgs_alloc h (.cells #[u] 25)
  exact ⟨h3.1, h3.2.1, h3.2.2.1, u, heap_alloc_new w2 _⟩
theorem SgS.offA {w1 w' : World} {x : Nat × Nat × ByteArray} {B : Option (Nat × Nat × ByteArray)} {G : Option Nat} (h : SgS w1 (some x) B G w') : SgS w1 none B G w' := ⟨h.1, trivial, h.2.2⟩
theorem SgS.offB {w1 w' : World} {x : Nat × Nat × ByteArray} {A : Option (Nat × Nat × ByteArray)} {G : Option Nat} (h : SgS w1 A (some x) G w') : SgS w1 A none G w' := ⟨h.1, h.2.1, trivial, h.2.2.2⟩
theorem SgS.offG {w1 w' : World} {n : Nat} {A B : Option (Nat × Nat × ByteArray)} (h : SgS w1 A B (some n) w') : SgS w1 A B none w' := ⟨h.1, h.2.1, h.2.2.1, trivial⟩
theorem sig_leaf (W : World) (P : Nat → Prop) : RepA W P (.mk 5 [98] 0 [] 0) [.int .i64 5, .string ⟨#[98]⟩, .int .u64 0, .int .u64 0, .int .u64 0, .int .u64 0, .slice none 0 0, .int .i64 0] := by
  have := RepA.mk (w := W) (P := P) (k := 5) (t := [98]) (c := 0) (p := 0) RepL.null
  exact this
theorem sig_node {W : World} {P : Nat → Prop} {k : Int} {n : Tr} {cs : Array Value} {g : Nat} (hP : P g) (hb : W.heap[g]? = some (.cells cs 36 (0, 0))) (_ : cs.size = 8) (h : RepA W P n cs.toList) : RepA W P (.mk k [] 0 [n] 0) [.int .i64 k, .string ⟨#[]⟩, .int .u64 0, .int .u64 0, .int .u64 0, .int .u64 0, .slice (some ⟨g, 0, none⟩) 1 1, .int .i64 0] := by
  have := RepA.mk (w := W) (P := P) (k := k) (t := []) (c := 0) (p := 0) (RepL.row (l := [n]) (cap := 1) hP (by simp) (by simp) (by simp [maxLen]) (RepC.cons (o := 0) (cs := cs.toList) (fun j _ => by rw [(cells_at hb).1, Nat.zero_add, Array.getElem?_toList]) h .nil))
  exact this
theorem sig_endA {a b p q gr cap : Nat} {w w1 w2 Wc : World} (hG : GRep w2 (Fresh Wc w2) [⟨[114], sigN a b p q, 0⟩] (.slice (some ⟨gr, 0, none⟩) 1 cap)) (HW : Below w.heap.size w w1) (hS : Below w1.heap.size w1 (w2.alloc (.cells #[.slice (some ⟨gr, 0, none⟩) 1 cap] 25))) : SigV a b (.pointer (some ⟨w2.heap.size, 0, none⟩)) .nilIface (w2.alloc (.cells #[.slice (some ⟨gr, 0, none⟩) 1 cap] 25)) ∧ Below w.heap.size w (w2.alloc (.cells #[.slice (some ⟨gr, 0, none⟩) 1 cap] 25)) :=
  ⟨⟨rfl, w2.heap.size, gr, cap, rfl, (cells_at (heap_alloc_new w2 _)).1 0, by simp, p, q, Fresh Wc w2, hG.mono (fun b hb => RowKit.Below.heap_alloc _ _ _ hb.2) (fun _ h => h), fun b hb => by have := hb.2; simp; omega⟩, HW.trans (hS.mono HW.size)⟩
theorem sig_endB {a b p q gr cap g : Nat} {gv : Value} {w w1 w2 Wc : World} (hG : GRep w2 (Fresh Wc w2) [⟨[114], sigN a b p q, 0⟩] (.slice (some ⟨gr, 0, none⟩) 1 cap)) (HW : Below w.heap.size w w1) (hS : Below w1.heap.size w1 (w2.setCell ⟨g, 0, none⟩ (.slice (some ⟨gr, 0, none⟩) 1 cap))) (hg : g < Wc.heap.size) (hgv : w2.heap[g]? = some (.cells #[gv] 25 (0, 0))) : SigV a b (.pointer (some ⟨g, 0, none⟩)) .nilIface (w2.setCell ⟨g, 0, none⟩ (.slice (some ⟨gr, 0, none⟩) 1 cap)) ∧ Below w.heap.size w (w2.setCell ⟨g, 0, none⟩ (.slice (some ⟨gr, 0, none⟩) 1 cap)) :=
  ⟨⟨rfl, g, gr, cap, rfl, by simpa using (cells_at (heap_setCell_same _ g 0 _ _ (.slice (some ⟨gr, 0, none⟩) 1 cap) hgv)).1 0, by simpa using (Array.getElem?_eq_some_iff.1 hgv).1, p, q, Fresh Wc w2, hG.mono (fun b hb => heap_setCell_other _ _ _ _ (show b ≠ g by have := hb.1; omega)) (fun _ h => h), fun b hb => by have := hb.2; simpa using this⟩, HW.trans (hS.mono HW.size)⟩
theorem wpAnyH_strong {P : Program} {md : Region.Mode} {ops : Array Oper} {Q : Exit → Act → World → Prop} {S S' : World → Prop} (hS : ∀ w, S' w → S w) : ∀ {fuel : Nat} {listed : Array Bool} {a : Act} {w : World}, wpAnyH P md ops Q S' fuel listed a w → wpAnyH P md ops Q S fuel listed a w
  | 0, _, _, _, h => h
  | _ + 1, _, _, _, h => ⟨h.1, fun i hi => wpOp_mono (fun _ w' h' => ⟨hS w' h'.1, wpAnyH_strong hS h'.2⟩) (h.2 i hi)⟩
set_option maxRecDepth 100000 in
set_option maxHeartbeats 6400000 in
theorem signs_any (x y : Int) (w : World) (hg : Laid w) : Calls Tryd.prog 3 #[.int .i64 x, .int .i64 y] w (Ans (.bool true) w) := by
  have HL := Lib.hid hg
  have HL1 := Lib.hid (fun (W : World) (h : Below w.heap.size w W) => HL.out.below h HL.out.pos)
  have hm1 := cell_alloc_lt
  obtain ⟨k, hk, hx⟩ := and3s x
  obtain ⟨b, hb3, hy⟩ := and3s y
  obtain ⟨a, hka, ha2⟩ : ∃ a : Nat, (k : Int) % 3 = (a : Int) ∧ a ≤ 2 := ⟨k % 3, by omega, by omega⟩
  clear hg
  go_enter Tryd.func3, Tryd.ntmps3
  repeat (first | go_values | go_skip | go_guarded | go_step | go_upon)
  refine (small4_any _ HL.out).mono ?_
  rintro e w1 ⟨rfl, hb1⟩
  obtain ⟨hc1, hf1⟩ := bcell hb1
  have hz1 := hb1.size
  try simp at hz1
  dsimp only
  repeat (go_not_at_region 4; first | go_values | go_skip | go_guarded | go_step | go_upon)
  rw [hka]
  clear hx hy hka hk
  go_cut [8, 9] from 18 to 33 (fun s8 s9 wx => SigV a b s8 s9 wx ∧ Below w.heap.size w wx)
  case first =>
    have HW := Lib.hid (show Below w.heap.size w w1 from (by repeat (first | exact Below.refl _ _ | assumption | refine bal ?_ _ | refine bdr ?_ | refine bdrn ?_ _ | (refine bset ?_ (by first | exact Nat.le_refl _ | (simp; done) | (simp; omega) | omega) _) | refine bstep ?_ (by assumption))))
    have HL2 := Lib.hid (fun (W : World) (h : Below w1.heap.size w1 W) => HL1.out W (HW.out.trans (h.mono HW.out.size)))
    obtain ⟨SA, hSA, z1, eA⟩ : ∃ SA : ByteArray, bl SA = sigA a ∧ SA.size ≤ 1 ∧ (#[.string ⟨#[]⟩, .string ⟨#[38]⟩, .string ⟨#[33]⟩] : Array Value)[a]? = some (.string SA) := by
      rcases (show a = 0 ∨ a = 1 ∨ a = 2 by omega) with rfl | rfl | rfl <;> exact ⟨_, rfl, by decide, rfl⟩
    obtain ⟨SB, hSB, z2, eB⟩ : ∃ SB : ByteArray, bl SB = sigB b ∧ SB.size ≤ 1 ∧ (#[.string ⟨#[]⟩, .string ⟨#[63]⟩, .string ⟨#[42]⟩, .string ⟨#[43]⟩] : Array Value)[b]? = some (.string SB) := by
      rcases (show b = 0 ∨ b = 1 ∨ b = 2 ∨ b = 3 by omega) with rfl | rfl | rfl | rfl <;> exact ⟨_, rfl, by decide, rfl⟩
    have HSA := Lib.hid hSA
    have HSB := Lib.hid hSB
    have d1 : a < 3 := by omega
    have d2 : b < 4 := by omega
    have d3 : decide (a < 3) = true := by simpa using d1
    have d4 : decide (b < 4) = true := by simpa using d2
    have d5 : (a : Int) < 3 := by omega
    have d6 : (b : Int) < 4 := by omega
    have n1 : ¬ 9223372036854775807 < 5 + SA.size := by omega
    have n2 : ¬ 9223372036854775807 < 5 + SA.size + 1 := by omega
    have n3 : ¬ 9223372036854775807 < 5 + SA.size + 1 + SB.size := by omega
    clear hSA hSB
    -- REGION 4 (printed by gen_sig.py)
    refine wp_region_held_drew (S := SgS w1 none none none) (by kernel_rfl) (sgs_start w1) (fun hHeld => ?_)
    refine wpAnyH_take (i := 1) (v := ?_) rfl (by kernel_rfl) (by kernel_rfl) (by kernel_rfl) (fun _ _ _ h => h) (Or.inl ⟨by rfl, ?_⟩) (by assumption) ?_
    rotate_left
    · intro wz hSw; obtain ⟨_, hSa, hSb, hSg⟩ := hSw; (try dsimp only at hSa hSb hSg); go_simp; (try with_reducible rfl)
    try simp only [Act.put, List.setIfInBounds_toArray]
    refine wpAnyH_take (i := 7) (v := ?_) rfl (by kernel_rfl) (by kernel_rfl) (by kernel_rfl) (fun _ _ _ h => h) (Or.inl ⟨by rfl, ?_⟩) (by assumption) ?_
    rotate_left
    · intro wz hSw; obtain ⟨_, hSa, hSb, hSg⟩ := hSw; (try dsimp only at hSa hSb hSg); go_simp; (try with_reducible rfl)
    try simp only [Act.put]
    refine wpAnyH_ready (rs := [0, 6, 15]) (by kernel_rfl) (by simp) ?_
    refine AllReadyH.cons rfl (fun K hK => ?_) (AllReadyH.cons rfl (fun K hK => ?_) (AllReadyH.cons rfl (fun K hK => ?_) AllReadyH.nil))
    · go_simp
      refine hK.out _ _ (sgs_alloc hHeld _) (fun hHeld2 => ?_)
      clear hK K
      try simp only [Act.put, List.setIfInBounds_toArray, List.set_cons_zero, List.set_cons_succ]
      refine wpAnyH_strong (S' := SgS w1 (some (w1.heap.size, a, SA)) none none) (fun _ h => h.offA) ?_
      first | (have hHeld := sgs_newA (n := w1.heap.size) eA hHeld2 (by first | rfl | simp)) | (have hHeld := sgs_newAd (n := w1.heap.size) eA hHeld2 (by first | rfl | simp))
      clear hHeld2
      refine wpAnyH_take (i := 2) (v := ?_) rfl (by kernel_rfl) (by kernel_rfl) (by kernel_rfl) (fun _ _ _ h => h) (Or.inl ⟨by rfl, ?_⟩) (by assumption) ?_
      rotate_left
      · intro wz hSw; obtain ⟨_, hSa, hSb, hSg⟩ := hSw; (try dsimp only at hSa hSb hSg); go_simp; (try with_reducible rfl)
      try simp only [Act.put, List.setIfInBounds_toArray]
      refine wpAnyH_take (i := 3) (v := ?_) rfl (by kernel_rfl) (by kernel_rfl) (by kernel_rfl) (fun _ _ _ h => h) (Or.inl ⟨by rfl, ?_⟩) (by assumption) ?_
      rotate_left
      · intro wz hSw; obtain ⟨_, hSa, hSb, hSg⟩ := hSw; (try dsimp only at hSa hSb hSg); go_simp; (try with_reducible rfl)
      try simp only [Act.put]
      refine wpAnyH_take (i := 4) (v := ?_) rfl (by kernel_rfl) (by kernel_rfl) (by kernel_rfl) (fun _ _ _ h => h) (Or.inl ⟨by rfl, ?_⟩) (by assumption) ?_
      rotate_left
      · intro wz hSw; obtain ⟨_, hSa, hSb, hSg⟩ := hSw; (try dsimp only at hSa hSb hSg); go_simp; (try with_reducible rfl)
      try simp only [Act.put]
      refine wpAnyH_take (i := 5) (v := ?_) rfl (by kernel_rfl) (by kernel_rfl) (by kernel_rfl) (fun _ _ _ h => h) (Or.inl ⟨by rfl, ?_⟩) (by assumption) ?_
      rotate_left
      · intro wz hSw; obtain ⟨_, hSa, hSb, hSg⟩ := hSw; (try dsimp only at hSa hSb hSg); go_simp; (try with_reducible rfl)
      try simp only [Act.put]
      refine wpAnyH_ready (rs := [6, 15]) (by kernel_rfl) (by simp) ?_
      refine AllReadyH.cons rfl (fun K hK => ?_) (AllReadyH.cons rfl (fun K hK => ?_) AllReadyH.nil)
      · go_simp
        refine hK.out _ _ (sgs_alloc hHeld _) (fun hHeld2 => ?_)
        clear hK K
        try simp only [Act.put, List.setIfInBounds_toArray, List.set_cons_zero, List.set_cons_succ]
        refine wpAnyH_strong (S' := SgS w1 (some (w1.heap.size, a, SA)) (some (w1.heap.size + 1, b, SB)) none) (fun _ h => h.offB) ?_
        first | (have hHeld := sgs_newB (n := w1.heap.size + 1) eB hHeld2 (by first | rfl | simp)) | (have hHeld := sgs_newBd (n := w1.heap.size + 1) eB hHeld2 (by first | rfl | simp))
        clear hHeld2
        refine wpAnyH_take (i := 8) (v := ?_) rfl (by kernel_rfl) (by kernel_rfl) (by kernel_rfl) (fun _ _ _ h => h) (Or.inl ⟨by rfl, ?_⟩) (by assumption) ?_
        rotate_left
        · intro wz hSw; obtain ⟨_, hSa, hSb, hSg⟩ := hSw; (try dsimp only at hSa hSb hSg); go_simp; (try with_reducible rfl)
        try simp only [Act.put, List.setIfInBounds_toArray]
        refine wpAnyH_take (i := 9) (v := ?_) rfl (by kernel_rfl) (by kernel_rfl) (by kernel_rfl) (fun _ _ _ h => h) (Or.inl ⟨by rfl, ?_⟩) (by assumption) ?_
        rotate_left
        · intro wz hSw; obtain ⟨_, hSa, hSb, hSg⟩ := hSw; (try dsimp only at hSa hSb hSg); go_simp; (try with_reducible rfl)
        try simp only [Act.put]
        refine wpAnyH_take (i := 10) (v := ?_) rfl (by kernel_rfl) (by kernel_rfl) (by kernel_rfl) (fun _ _ _ h => h) (Or.inl ⟨by rfl, ?_⟩) (by assumption) ?_
        rotate_left
        · intro wz hSw; obtain ⟨_, hSa, hSb, hSg⟩ := hSw; (try dsimp only at hSa hSb hSg); go_simp; (try with_reducible rfl)
        try simp only [Act.put]
        refine wpAnyH_ready (rs := [11, 15]) (by kernel_rfl) (by simp) ?_
        refine AllReadyH.cons rfl (fun K hK => ?_) (AllReadyH.cons rfl (fun K hK => ?_) AllReadyH.nil)
        · go_simp
          refine (sig_parse ha2 hb3 HSA.out HSB.out (HL2.out _ hHeld.1)).mono ?_
          rintro e w2 ⟨⟨gr, cap, p, q, rfl, hG⟩, hb2⟩
          have hz2 : w1.heap.size + 2 ≤ w2.heap.size := by have := hb2.size; simp at this; omega
          dsimp only
          refine hK.out _ _ (sgs_call hHeld hb2) (fun hHeld => ?_)
          clear hK K
          try simp only [Act.put, List.setIfInBounds_toArray, List.set_cons_zero, List.set_cons_succ]
          refine wpAnyH_take (i := 12) (v := ?_) rfl (by kernel_rfl) (by kernel_rfl) (by kernel_rfl) (fun _ _ _ h => h) (Or.inl ⟨by rfl, ?_⟩) (by assumption) ?_
          rotate_left
          · intro wz hSw; obtain ⟨_, hSa, hSb, hSg⟩ := hSw; (try dsimp only at hSa hSb hSg); go_simp; (try with_reducible rfl)
          try simp only [Act.put, List.setIfInBounds_toArray]
          refine wpAnyH_take (i := 13) (v := ?_) rfl (by kernel_rfl) (by kernel_rfl) (by kernel_rfl) (fun _ _ _ h => h) (Or.inl ⟨by rfl, ?_⟩) (by assumption) ?_
          rotate_left
          · intro wz hSw; obtain ⟨_, hSa, hSb, hSg⟩ := hSw; (try dsimp only at hSa hSb hSg); go_simp; (try with_reducible rfl)
          try simp only [Act.put]
          refine wpAnyH_take (i := 14) (v := ?_) rfl (by kernel_rfl) (by kernel_rfl) (by kernel_rfl) (fun _ _ _ h => h) (Or.inl ⟨by rfl, ?_⟩) (by assumption) ?_
          rotate_left
          · intro wz hSw; obtain ⟨_, hSa, hSb, hSg⟩ := hSw; (try dsimp only at hSa hSb hSg); go_simp; (try with_reducible rfl)
          try simp only [Act.put]
          refine wpAnyH_ready (rs := [15]) (by kernel_rfl) (by simp) ?_
          refine AllReadyH.cons rfl (fun K hK => ?_) AllReadyH.nil
          · have hCall := hHeld
            go_simp
            refine hK.out _ _ (sgs_alloc hHeld _) (fun hHeld2 => ?_)
            clear hK K
            try simp only [Act.put, List.setIfInBounds_toArray, List.set_cons_zero, List.set_cons_succ]
            refine wpAnyH_strong (S' := SgS w1 (some (w1.heap.size, a, SA)) (some (w1.heap.size + 1, b, SB)) (some (w2.heap.size))) (fun _ h => h.offG) ?_
            first | (have hHeld := sgs_newG (n := w2.heap.size) hHeld2 (by first | rfl | simp)) | (have hHeld := sgs_newGd (n := w2.heap.size) hHeld2 (by first | rfl | simp))
            clear hHeld2
            refine wpAnyH_ready (rs := [16]) (by kernel_rfl) (by simp) ?_
            refine AllReadyH.cons rfl (fun K hK => ?_) AllReadyH.nil
            obtain ⟨gv, hgv⟩ := hHeld.2.2.2
            have t1 := (cells_at hgv).1 0
            have t2 := (cells_at hgv).2.1
            have t3 := (cells_at hgv).2.2
            have h16 := hHeld
            go_simp
            refine hK.out _ _ (sgs_put hCall) (fun hHeld => ?_)
            clear hK K
            try simp only [Act.put, List.setIfInBounds_toArray, List.set_cons_zero, List.set_cons_succ]
            refine wpAnyH_take (i := 17) (v := ?_) rfl (by kernel_rfl) (by kernel_rfl) (by kernel_rfl) (fun _ _ _ h => h) (Or.inl ⟨by rfl, ?_⟩) (by assumption) ?_
            rotate_left
            · intro wz hSw; obtain ⟨_, hSa, hSb, hSg⟩ := hSw; (try dsimp only at hSa hSb hSg); go_simp; (try with_reducible rfl)
            simp only [Act.put, List.setIfInBounds_toArray, List.getElem_toArray, List.getElem_cons_succ, List.getElem_cons_zero, List.set_cons_zero, List.set_cons_succ]
            refine wpAnyH_done (by kernel_rfl) ?_ _
            repeat (first | go_values | go_skip | go_guarded | go_step | go_upon)
            go_meet
            exact sig_endA hG HW.out hHeld.1
        · go_simp
          refine hK.out _ _ (sgs_alloc hHeld _) (fun hHeld2 => ?_)
          clear hK K
          try simp only [Act.put, List.setIfInBounds_toArray, List.set_cons_zero, List.set_cons_succ]
          refine wpAnyH_strong (S' := SgS w1 (some (w1.heap.size, a, SA)) (some (w1.heap.size + 1, b, SB)) (some (w1.heap.size + 2))) (fun _ h => h.offG) ?_
          first | (have hHeld := sgs_newG (n := w1.heap.size + 2) hHeld2 (by first | rfl | simp)) | (have hHeld := sgs_newGd (n := w1.heap.size + 2) hHeld2 (by first | rfl | simp))
          clear hHeld2
          refine wpAnyH_ready (rs := [11]) (by kernel_rfl) (by simp) ?_
          refine AllReadyH.cons rfl (fun K hK => ?_) AllReadyH.nil
          · go_simp
            refine (sig_parse ha2 hb3 HSA.out HSB.out (HL2.out _ hHeld.1)).mono ?_
            rintro e w2 ⟨⟨gr, cap, p, q, rfl, hG⟩, hb2⟩
            have hz2 : w1.heap.size + 3 ≤ w2.heap.size := by have := hb2.size; simp at this; omega
            dsimp only
            refine hK.out _ _ (sgs_call hHeld hb2) (fun hHeld => ?_)
            clear hK K
            try simp only [Act.put, List.setIfInBounds_toArray, List.set_cons_zero, List.set_cons_succ]
            refine wpAnyH_take (i := 12) (v := ?_) rfl (by kernel_rfl) (by kernel_rfl) (by kernel_rfl) (fun _ _ _ h => h) (Or.inl ⟨by rfl, ?_⟩) (by assumption) ?_
            rotate_left
            · intro wz hSw; obtain ⟨_, hSa, hSb, hSg⟩ := hSw; (try dsimp only at hSa hSb hSg); go_simp; (try with_reducible rfl)
            try simp only [Act.put, List.setIfInBounds_toArray]
            refine wpAnyH_take (i := 13) (v := ?_) rfl (by kernel_rfl) (by kernel_rfl) (by kernel_rfl) (fun _ _ _ h => h) (Or.inl ⟨by rfl, ?_⟩) (by assumption) ?_
            rotate_left
            · intro wz hSw; obtain ⟨_, hSa, hSb, hSg⟩ := hSw; (try dsimp only at hSa hSb hSg); go_simp; (try with_reducible rfl)
            try simp only [Act.put]
            refine wpAnyH_take (i := 14) (v := ?_) rfl (by kernel_rfl) (by kernel_rfl) (by kernel_rfl) (fun _ _ _ h => h) (Or.inl ⟨by rfl, ?_⟩) (by assumption) ?_
            rotate_left
            · intro wz hSw; obtain ⟨_, hSa, hSb, hSg⟩ := hSw; (try dsimp only at hSa hSb hSg); go_simp; (try with_reducible rfl)
            try simp only [Act.put]
            refine wpAnyH_ready (rs := [16]) (by kernel_rfl) (by simp) ?_
            refine AllReadyH.cons rfl (fun K hK => ?_) AllReadyH.nil
            obtain ⟨gv, hgv⟩ := hHeld.2.2.2
            have t1 := (cells_at hgv).1 0
            have t2 := (cells_at hgv).2.1
            have t3 := (cells_at hgv).2.2
            have h16 := hHeld
            go_simp
            refine hK.out _ _ (sgs_set hHeld (by omega) (fun _ _ _ e => by injection e with e; injection e with e; omega) (fun _ _ _ e => by injection e with e; injection e with e; omega) _) (fun hHeld => ?_)
            clear hK K
            try simp only [Act.put, List.setIfInBounds_toArray, List.set_cons_zero, List.set_cons_succ]
            refine wpAnyH_take (i := 17) (v := ?_) rfl (by kernel_rfl) (by kernel_rfl) (by kernel_rfl) (fun _ _ _ h => h) (Or.inl ⟨by rfl, ?_⟩) (by assumption) ?_
            rotate_left
            · intro wz hSw; obtain ⟨_, hSa, hSb, hSg⟩ := hSw; (try dsimp only at hSa hSb hSg); go_simp; (try with_reducible rfl)
            simp only [Act.put, List.setIfInBounds_toArray, List.getElem_toArray, List.getElem_cons_succ, List.getElem_cons_zero, List.set_cons_zero, List.set_cons_succ]
            refine wpAnyH_done (by kernel_rfl) ?_ _
            repeat (first | go_values | go_skip | go_guarded | go_step | go_upon)
            go_meet
            exact sig_endB hG HW.out hHeld.1 (by simp <;> omega) hgv
      · go_simp
        refine hK.out _ _ (sgs_alloc hHeld _) (fun hHeld2 => ?_)
        clear hK K
        try simp only [Act.put, List.setIfInBounds_toArray, List.set_cons_zero, List.set_cons_succ]
        refine wpAnyH_strong (S' := SgS w1 (some (w1.heap.size, a, SA)) none (some (w1.heap.size + 1))) (fun _ h => h.offG) ?_
        first | (have hHeld := sgs_newG (n := w1.heap.size + 1) hHeld2 (by first | rfl | simp)) | (have hHeld := sgs_newGd (n := w1.heap.size + 1) hHeld2 (by first | rfl | simp))
        clear hHeld2
        refine wpAnyH_ready (rs := [6]) (by kernel_rfl) (by simp) ?_
        refine AllReadyH.cons rfl (fun K hK => ?_) AllReadyH.nil
        · go_simp
          refine hK.out _ _ (sgs_alloc hHeld _) (fun hHeld2 => ?_)
          clear hK K
          try simp only [Act.put, List.setIfInBounds_toArray, List.set_cons_zero, List.set_cons_succ]
          refine wpAnyH_strong (S' := SgS w1 (some (w1.heap.size, a, SA)) (some (w1.heap.size + 2, b, SB)) (some (w1.heap.size + 1))) (fun _ h => h.offB) ?_
          first | (have hHeld := sgs_newB (n := w1.heap.size + 2) eB hHeld2 (by first | rfl | simp)) | (have hHeld := sgs_newBd (n := w1.heap.size + 2) eB hHeld2 (by first | rfl | simp))
          clear hHeld2
          refine wpAnyH_take (i := 8) (v := ?_) rfl (by kernel_rfl) (by kernel_rfl) (by kernel_rfl) (fun _ _ _ h => h) (Or.inl ⟨by rfl, ?_⟩) (by assumption) ?_
          rotate_left
          · intro wz hSw; obtain ⟨_, hSa, hSb, hSg⟩ := hSw; (try dsimp only at hSa hSb hSg); go_simp; (try with_reducible rfl)
          try simp only [Act.put, List.setIfInBounds_toArray]
          refine wpAnyH_take (i := 9) (v := ?_) rfl (by kernel_rfl) (by kernel_rfl) (by kernel_rfl) (fun _ _ _ h => h) (Or.inl ⟨by rfl, ?_⟩) (by assumption) ?_
          rotate_left
          · intro wz hSw; obtain ⟨_, hSa, hSb, hSg⟩ := hSw; (try dsimp only at hSa hSb hSg); go_simp; (try with_reducible rfl)
          try simp only [Act.put]
          refine wpAnyH_take (i := 10) (v := ?_) rfl (by kernel_rfl) (by kernel_rfl) (by kernel_rfl) (fun _ _ _ h => h) (Or.inl ⟨by rfl, ?_⟩) (by assumption) ?_
          rotate_left
          · intro wz hSw; obtain ⟨_, hSa, hSb, hSg⟩ := hSw; (try dsimp only at hSa hSb hSg); go_simp; (try with_reducible rfl)
          try simp only [Act.put]
          refine wpAnyH_ready (rs := [11]) (by kernel_rfl) (by simp) ?_
          refine AllReadyH.cons rfl (fun K hK => ?_) AllReadyH.nil
          · go_simp
            refine (sig_parse ha2 hb3 HSA.out HSB.out (HL2.out _ hHeld.1)).mono ?_
            rintro e w2 ⟨⟨gr, cap, p, q, rfl, hG⟩, hb2⟩
            have hz2 : w1.heap.size + 3 ≤ w2.heap.size := by have := hb2.size; simp at this; omega
            dsimp only
            refine hK.out _ _ (sgs_call hHeld hb2) (fun hHeld => ?_)
            clear hK K
            try simp only [Act.put, List.setIfInBounds_toArray, List.set_cons_zero, List.set_cons_succ]
            refine wpAnyH_take (i := 12) (v := ?_) rfl (by kernel_rfl) (by kernel_rfl) (by kernel_rfl) (fun _ _ _ h => h) (Or.inl ⟨by rfl, ?_⟩) (by assumption) ?_
            rotate_left
            · intro wz hSw; obtain ⟨_, hSa, hSb, hSg⟩ := hSw; (try dsimp only at hSa hSb hSg); go_simp; (try with_reducible rfl)
            try simp only [Act.put, List.setIfInBounds_toArray]
            refine wpAnyH_take (i := 13) (v := ?_) rfl (by kernel_rfl) (by kernel_rfl) (by kernel_rfl) (fun _ _ _ h => h) (Or.inl ⟨by rfl, ?_⟩) (by assumption) ?_
            rotate_left
            · intro wz hSw; obtain ⟨_, hSa, hSb, hSg⟩ := hSw; (try dsimp only at hSa hSb hSg); go_simp; (try with_reducible rfl)
            try simp only [Act.put]
            refine wpAnyH_take (i := 14) (v := ?_) rfl (by kernel_rfl) (by kernel_rfl) (by kernel_rfl) (fun _ _ _ h => h) (Or.inl ⟨by rfl, ?_⟩) (by assumption) ?_
            rotate_left
            · intro wz hSw; obtain ⟨_, hSa, hSb, hSg⟩ := hSw; (try dsimp only at hSa hSb hSg); go_simp; (try with_reducible rfl)
            try simp only [Act.put]
            refine wpAnyH_ready (rs := [16]) (by kernel_rfl) (by simp) ?_
            refine AllReadyH.cons rfl (fun K hK => ?_) AllReadyH.nil
            obtain ⟨gv, hgv⟩ := hHeld.2.2.2
            have t1 := (cells_at hgv).1 0
            have t2 := (cells_at hgv).2.1
            have t3 := (cells_at hgv).2.2
            have h16 := hHeld
            go_simp
            refine hK.out _ _ (sgs_set hHeld (by omega) (fun _ _ _ e => by injection e with e; injection e with e; omega) (fun _ _ _ e => by injection e with e; injection e with e; omega) _) (fun hHeld => ?_)
            clear hK K
            try simp only [Act.put, List.setIfInBounds_toArray, List.set_cons_zero, List.set_cons_succ]
            refine wpAnyH_take (i := 17) (v := ?_) rfl (by kernel_rfl) (by kernel_rfl) (by kernel_rfl) (fun _ _ _ h => h) (Or.inl ⟨by rfl, ?_⟩) (by assumption) ?_
            rotate_left
            · intro wz hSw; obtain ⟨_, hSa, hSb, hSg⟩ := hSw; (try dsimp only at hSa hSb hSg); go_simp; (try with_reducible rfl)
            simp only [Act.put, List.setIfInBounds_toArray, List.getElem_toArray, List.getElem_cons_succ, List.getElem_cons_zero, List.set_cons_zero, List.set_cons_succ]
            refine wpAnyH_done (by kernel_rfl) ?_ _
            repeat (first | go_values | go_skip | go_guarded | go_step | go_upon)
            go_meet
            exact sig_endB hG HW.out hHeld.1 (by simp <;> omega) hgv
    · go_simp
      refine hK.out _ _ (sgs_alloc hHeld _) (fun hHeld2 => ?_)
      clear hK K
      try simp only [Act.put, List.setIfInBounds_toArray, List.set_cons_zero, List.set_cons_succ]
      refine wpAnyH_strong (S' := SgS w1 none (some (w1.heap.size, b, SB)) none) (fun _ h => h.offB) ?_
      first | (have hHeld := sgs_newB (n := w1.heap.size) eB hHeld2 (by first | rfl | simp)) | (have hHeld := sgs_newBd (n := w1.heap.size) eB hHeld2 (by first | rfl | simp))
      clear hHeld2
      refine wpAnyH_take (i := 8) (v := ?_) rfl (by kernel_rfl) (by kernel_rfl) (by kernel_rfl) (fun _ _ _ h => h) (Or.inl ⟨by rfl, ?_⟩) (by assumption) ?_
      rotate_left
      · intro wz hSw; obtain ⟨_, hSa, hSb, hSg⟩ := hSw; (try dsimp only at hSa hSb hSg); go_simp; (try with_reducible rfl)
      try simp only [Act.put, List.setIfInBounds_toArray]
      refine wpAnyH_take (i := 9) (v := ?_) rfl (by kernel_rfl) (by kernel_rfl) (by kernel_rfl) (fun _ _ _ h => h) (Or.inl ⟨by rfl, ?_⟩) (by assumption) ?_
      rotate_left
      · intro wz hSw; obtain ⟨_, hSa, hSb, hSg⟩ := hSw; (try dsimp only at hSa hSb hSg); go_simp; (try with_reducible rfl)
      try simp only [Act.put]
      refine wpAnyH_ready (rs := [0, 15]) (by kernel_rfl) (by simp) ?_
      refine AllReadyH.cons rfl (fun K hK => ?_) (AllReadyH.cons rfl (fun K hK => ?_) AllReadyH.nil)
      · go_simp
        refine hK.out _ _ (sgs_alloc hHeld _) (fun hHeld2 => ?_)
        clear hK K
        try simp only [Act.put, List.setIfInBounds_toArray, List.set_cons_zero, List.set_cons_succ]
        refine wpAnyH_strong (S' := SgS w1 (some (w1.heap.size + 1, a, SA)) (some (w1.heap.size, b, SB)) none) (fun _ h => h.offA) ?_
        first | (have hHeld := sgs_newA (n := w1.heap.size + 1) eA hHeld2 (by first | rfl | simp)) | (have hHeld := sgs_newAd (n := w1.heap.size + 1) eA hHeld2 (by first | rfl | simp))
        clear hHeld2
        refine wpAnyH_take (i := 2) (v := ?_) rfl (by kernel_rfl) (by kernel_rfl) (by kernel_rfl) (fun _ _ _ h => h) (Or.inl ⟨by rfl, ?_⟩) (by assumption) ?_
        rotate_left
        · intro wz hSw; obtain ⟨_, hSa, hSb, hSg⟩ := hSw; (try dsimp only at hSa hSb hSg); go_simp; (try with_reducible rfl)
        try simp only [Act.put, List.setIfInBounds_toArray]
        refine wpAnyH_take (i := 3) (v := ?_) rfl (by kernel_rfl) (by kernel_rfl) (by kernel_rfl) (fun _ _ _ h => h) (Or.inl ⟨by rfl, ?_⟩) (by assumption) ?_
        rotate_left
        · intro wz hSw; obtain ⟨_, hSa, hSb, hSg⟩ := hSw; (try dsimp only at hSa hSb hSg); go_simp; (try with_reducible rfl)
        try simp only [Act.put]
        refine wpAnyH_take (i := 4) (v := ?_) rfl (by kernel_rfl) (by kernel_rfl) (by kernel_rfl) (fun _ _ _ h => h) (Or.inl ⟨by rfl, ?_⟩) (by assumption) ?_
        rotate_left
        · intro wz hSw; obtain ⟨_, hSa, hSb, hSg⟩ := hSw; (try dsimp only at hSa hSb hSg); go_simp; (try with_reducible rfl)
        try simp only [Act.put]
        refine wpAnyH_take (i := 5) (v := ?_) rfl (by kernel_rfl) (by kernel_rfl) (by kernel_rfl) (fun _ _ _ h => h) (Or.inl ⟨by rfl, ?_⟩) (by assumption) ?_
        rotate_left
        · intro wz hSw; obtain ⟨_, hSa, hSb, hSg⟩ := hSw; (try dsimp only at hSa hSb hSg); go_simp; (try with_reducible rfl)
        try simp only [Act.put]
        refine wpAnyH_take (i := 10) (v := ?_) rfl (by kernel_rfl) (by kernel_rfl) (by kernel_rfl) (fun _ _ _ h => h) (Or.inl ⟨by rfl, ?_⟩) (by assumption) ?_
        rotate_left
        · intro wz hSw; obtain ⟨_, hSa, hSb, hSg⟩ := hSw; (try dsimp only at hSa hSb hSg); go_simp; (try with_reducible rfl)
        try simp only [Act.put]
        refine wpAnyH_ready (rs := [11, 15]) (by kernel_rfl) (by simp) ?_
        refine AllReadyH.cons rfl (fun K hK => ?_) (AllReadyH.cons rfl (fun K hK => ?_) AllReadyH.nil)
        · go_simp
          refine (sig_parse ha2 hb3 HSA.out HSB.out (HL2.out _ hHeld.1)).mono ?_
          rintro e w2 ⟨⟨gr, cap, p, q, rfl, hG⟩, hb2⟩
          have hz2 : w1.heap.size + 2 ≤ w2.heap.size := by have := hb2.size; simp at this; omega
          dsimp only
          refine hK.out _ _ (sgs_call hHeld hb2) (fun hHeld => ?_)
          clear hK K
          try simp only [Act.put, List.setIfInBounds_toArray, List.set_cons_zero, List.set_cons_succ]
          refine wpAnyH_take (i := 12) (v := ?_) rfl (by kernel_rfl) (by kernel_rfl) (by kernel_rfl) (fun _ _ _ h => h) (Or.inl ⟨by rfl, ?_⟩) (by assumption) ?_
          rotate_left
          · intro wz hSw; obtain ⟨_, hSa, hSb, hSg⟩ := hSw; (try dsimp only at hSa hSb hSg); go_simp; (try with_reducible rfl)
          try simp only [Act.put, List.setIfInBounds_toArray]
          refine wpAnyH_take (i := 13) (v := ?_) rfl (by kernel_rfl) (by kernel_rfl) (by kernel_rfl) (fun _ _ _ h => h) (Or.inl ⟨by rfl, ?_⟩) (by assumption) ?_
          rotate_left
          · intro wz hSw; obtain ⟨_, hSa, hSb, hSg⟩ := hSw; (try dsimp only at hSa hSb hSg); go_simp; (try with_reducible rfl)
          try simp only [Act.put]
          refine wpAnyH_take (i := 14) (v := ?_) rfl (by kernel_rfl) (by kernel_rfl) (by kernel_rfl) (fun _ _ _ h => h) (Or.inl ⟨by rfl, ?_⟩) (by assumption) ?_
          rotate_left
          · intro wz hSw; obtain ⟨_, hSa, hSb, hSg⟩ := hSw; (try dsimp only at hSa hSb hSg); go_simp; (try with_reducible rfl)
          try simp only [Act.put]
          refine wpAnyH_ready (rs := [15]) (by kernel_rfl) (by simp) ?_
          refine AllReadyH.cons rfl (fun K hK => ?_) AllReadyH.nil
          · have hCall := hHeld
            go_simp
            refine hK.out _ _ (sgs_alloc hHeld _) (fun hHeld2 => ?_)
            clear hK K
            try simp only [Act.put, List.setIfInBounds_toArray, List.set_cons_zero, List.set_cons_succ]
            refine wpAnyH_strong (S' := SgS w1 (some (w1.heap.size + 1, a, SA)) (some (w1.heap.size, b, SB)) (some (w2.heap.size))) (fun _ h => h.offG) ?_
            first | (have hHeld := sgs_newG (n := w2.heap.size) hHeld2 (by first | rfl | simp)) | (have hHeld := sgs_newGd (n := w2.heap.size) hHeld2 (by first | rfl | simp))
            clear hHeld2
            refine wpAnyH_ready (rs := [16]) (by kernel_rfl) (by simp) ?_
            refine AllReadyH.cons rfl (fun K hK => ?_) AllReadyH.nil
            obtain ⟨gv, hgv⟩ := hHeld.2.2.2
            have t1 := (cells_at hgv).1 0
            have t2 := (cells_at hgv).2.1
            have t3 := (cells_at hgv).2.2
            have h16 := hHeld
            go_simp
            refine hK.out _ _ (sgs_put hCall) (fun hHeld => ?_)
            clear hK K
            try simp only [Act.put, List.setIfInBounds_toArray, List.set_cons_zero, List.set_cons_succ]
            refine wpAnyH_take (i := 17) (v := ?_) rfl (by kernel_rfl) (by kernel_rfl) (by kernel_rfl) (fun _ _ _ h => h) (Or.inl ⟨by rfl, ?_⟩) (by assumption) ?_
            rotate_left
            · intro wz hSw; obtain ⟨_, hSa, hSb, hSg⟩ := hSw; (try dsimp only at hSa hSb hSg); go_simp; (try with_reducible rfl)
            simp only [Act.put, List.setIfInBounds_toArray, List.getElem_toArray, List.getElem_cons_succ, List.getElem_cons_zero, List.set_cons_zero, List.set_cons_succ]
            refine wpAnyH_done (by kernel_rfl) ?_ _
            repeat (first | go_values | go_skip | go_guarded | go_step | go_upon)
            go_meet
            exact sig_endA hG HW.out hHeld.1
        · go_simp
          refine hK.out _ _ (sgs_alloc hHeld _) (fun hHeld2 => ?_)
          clear hK K
          try simp only [Act.put, List.setIfInBounds_toArray, List.set_cons_zero, List.set_cons_succ]
          refine wpAnyH_strong (S' := SgS w1 (some (w1.heap.size + 1, a, SA)) (some (w1.heap.size, b, SB)) (some (w1.heap.size + 2))) (fun _ h => h.offG) ?_
          first | (have hHeld := sgs_newG (n := w1.heap.size + 2) hHeld2 (by first | rfl | simp)) | (have hHeld := sgs_newGd (n := w1.heap.size + 2) hHeld2 (by first | rfl | simp))
          clear hHeld2
          refine wpAnyH_ready (rs := [11]) (by kernel_rfl) (by simp) ?_
          refine AllReadyH.cons rfl (fun K hK => ?_) AllReadyH.nil
          · go_simp
            refine (sig_parse ha2 hb3 HSA.out HSB.out (HL2.out _ hHeld.1)).mono ?_
            rintro e w2 ⟨⟨gr, cap, p, q, rfl, hG⟩, hb2⟩
            have hz2 : w1.heap.size + 3 ≤ w2.heap.size := by have := hb2.size; simp at this; omega
            dsimp only
            refine hK.out _ _ (sgs_call hHeld hb2) (fun hHeld => ?_)
            clear hK K
            try simp only [Act.put, List.setIfInBounds_toArray, List.set_cons_zero, List.set_cons_succ]
            refine wpAnyH_take (i := 12) (v := ?_) rfl (by kernel_rfl) (by kernel_rfl) (by kernel_rfl) (fun _ _ _ h => h) (Or.inl ⟨by rfl, ?_⟩) (by assumption) ?_
            rotate_left
            · intro wz hSw; obtain ⟨_, hSa, hSb, hSg⟩ := hSw; (try dsimp only at hSa hSb hSg); go_simp; (try with_reducible rfl)
            try simp only [Act.put, List.setIfInBounds_toArray]
            refine wpAnyH_take (i := 13) (v := ?_) rfl (by kernel_rfl) (by kernel_rfl) (by kernel_rfl) (fun _ _ _ h => h) (Or.inl ⟨by rfl, ?_⟩) (by assumption) ?_
            rotate_left
            · intro wz hSw; obtain ⟨_, hSa, hSb, hSg⟩ := hSw; (try dsimp only at hSa hSb hSg); go_simp; (try with_reducible rfl)
            try simp only [Act.put]
            refine wpAnyH_take (i := 14) (v := ?_) rfl (by kernel_rfl) (by kernel_rfl) (by kernel_rfl) (fun _ _ _ h => h) (Or.inl ⟨by rfl, ?_⟩) (by assumption) ?_
            rotate_left
            · intro wz hSw; obtain ⟨_, hSa, hSb, hSg⟩ := hSw; (try dsimp only at hSa hSb hSg); go_simp; (try with_reducible rfl)
            try simp only [Act.put]
            refine wpAnyH_ready (rs := [16]) (by kernel_rfl) (by simp) ?_
            refine AllReadyH.cons rfl (fun K hK => ?_) AllReadyH.nil
            obtain ⟨gv, hgv⟩ := hHeld.2.2.2
            have t1 := (cells_at hgv).1 0
            have t2 := (cells_at hgv).2.1
            have t3 := (cells_at hgv).2.2
            have h16 := hHeld
            go_simp
            refine hK.out _ _ (sgs_set hHeld (by omega) (fun _ _ _ e => by injection e with e; injection e with e; omega) (fun _ _ _ e => by injection e with e; injection e with e; omega) _) (fun hHeld => ?_)
            clear hK K
            try simp only [Act.put, List.setIfInBounds_toArray, List.set_cons_zero, List.set_cons_succ]
            refine wpAnyH_take (i := 17) (v := ?_) rfl (by kernel_rfl) (by kernel_rfl) (by kernel_rfl) (fun _ _ _ h => h) (Or.inl ⟨by rfl, ?_⟩) (by assumption) ?_
            rotate_left
            · intro wz hSw; obtain ⟨_, hSa, hSb, hSg⟩ := hSw; (try dsimp only at hSa hSb hSg); go_simp; (try with_reducible rfl)
            simp only [Act.put, List.setIfInBounds_toArray, List.getElem_toArray, List.getElem_cons_succ, List.getElem_cons_zero, List.set_cons_zero, List.set_cons_succ]
            refine wpAnyH_done (by kernel_rfl) ?_ _
            repeat (first | go_values | go_skip | go_guarded | go_step | go_upon)
            go_meet
            exact sig_endB hG HW.out hHeld.1 (by simp <;> omega) hgv
      · go_simp
        refine hK.out _ _ (sgs_alloc hHeld _) (fun hHeld2 => ?_)
        clear hK K
        try simp only [Act.put, List.setIfInBounds_toArray, List.set_cons_zero, List.set_cons_succ]
        refine wpAnyH_strong (S' := SgS w1 none (some (w1.heap.size, b, SB)) (some (w1.heap.size + 1))) (fun _ h => h.offG) ?_
        first | (have hHeld := sgs_newG (n := w1.heap.size + 1) hHeld2 (by first | rfl | simp)) | (have hHeld := sgs_newGd (n := w1.heap.size + 1) hHeld2 (by first | rfl | simp))
        clear hHeld2
        refine wpAnyH_ready (rs := [0]) (by kernel_rfl) (by simp) ?_
        refine AllReadyH.cons rfl (fun K hK => ?_) AllReadyH.nil
        · go_simp
          refine hK.out _ _ (sgs_alloc hHeld _) (fun hHeld2 => ?_)
          clear hK K
          try simp only [Act.put, List.setIfInBounds_toArray, List.set_cons_zero, List.set_cons_succ]
          refine wpAnyH_strong (S' := SgS w1 (some (w1.heap.size + 2, a, SA)) (some (w1.heap.size, b, SB)) (some (w1.heap.size + 1))) (fun _ h => h.offA) ?_
          first | (have hHeld := sgs_newA (n := w1.heap.size + 2) eA hHeld2 (by first | rfl | simp)) | (have hHeld := sgs_newAd (n := w1.heap.size + 2) eA hHeld2 (by first | rfl | simp))
          clear hHeld2
          refine wpAnyH_take (i := 2) (v := ?_) rfl (by kernel_rfl) (by kernel_rfl) (by kernel_rfl) (fun _ _ _ h => h) (Or.inl ⟨by rfl, ?_⟩) (by assumption) ?_
          rotate_left
          · intro wz hSw; obtain ⟨_, hSa, hSb, hSg⟩ := hSw; (try dsimp only at hSa hSb hSg); go_simp; (try with_reducible rfl)
          try simp only [Act.put, List.setIfInBounds_toArray]
          refine wpAnyH_take (i := 3) (v := ?_) rfl (by kernel_rfl) (by kernel_rfl) (by kernel_rfl) (fun _ _ _ h => h) (Or.inl ⟨by rfl, ?_⟩) (by assumption) ?_
          rotate_left
          · intro wz hSw; obtain ⟨_, hSa, hSb, hSg⟩ := hSw; (try dsimp only at hSa hSb hSg); go_simp; (try with_reducible rfl)
          try simp only [Act.put]
          refine wpAnyH_take (i := 4) (v := ?_) rfl (by kernel_rfl) (by kernel_rfl) (by kernel_rfl) (fun _ _ _ h => h) (Or.inl ⟨by rfl, ?_⟩) (by assumption) ?_
          rotate_left
          · intro wz hSw; obtain ⟨_, hSa, hSb, hSg⟩ := hSw; (try dsimp only at hSa hSb hSg); go_simp; (try with_reducible rfl)
          try simp only [Act.put]
          refine wpAnyH_take (i := 5) (v := ?_) rfl (by kernel_rfl) (by kernel_rfl) (by kernel_rfl) (fun _ _ _ h => h) (Or.inl ⟨by rfl, ?_⟩) (by assumption) ?_
          rotate_left
          · intro wz hSw; obtain ⟨_, hSa, hSb, hSg⟩ := hSw; (try dsimp only at hSa hSb hSg); go_simp; (try with_reducible rfl)
          try simp only [Act.put]
          refine wpAnyH_take (i := 10) (v := ?_) rfl (by kernel_rfl) (by kernel_rfl) (by kernel_rfl) (fun _ _ _ h => h) (Or.inl ⟨by rfl, ?_⟩) (by assumption) ?_
          rotate_left
          · intro wz hSw; obtain ⟨_, hSa, hSb, hSg⟩ := hSw; (try dsimp only at hSa hSb hSg); go_simp; (try with_reducible rfl)
          try simp only [Act.put]
          refine wpAnyH_ready (rs := [11]) (by kernel_rfl) (by simp) ?_
          refine AllReadyH.cons rfl (fun K hK => ?_) AllReadyH.nil
          · go_simp
            refine (sig_parse ha2 hb3 HSA.out HSB.out (HL2.out _ hHeld.1)).mono ?_
            rintro e w2 ⟨⟨gr, cap, p, q, rfl, hG⟩, hb2⟩
            have hz2 : w1.heap.size + 3 ≤ w2.heap.size := by have := hb2.size; simp at this; omega
            dsimp only
            refine hK.out _ _ (sgs_call hHeld hb2) (fun hHeld => ?_)
            clear hK K
            try simp only [Act.put, List.setIfInBounds_toArray, List.set_cons_zero, List.set_cons_succ]
            refine wpAnyH_take (i := 12) (v := ?_) rfl (by kernel_rfl) (by kernel_rfl) (by kernel_rfl) (fun _ _ _ h => h) (Or.inl ⟨by rfl, ?_⟩) (by assumption) ?_
            rotate_left
            · intro wz hSw; obtain ⟨_, hSa, hSb, hSg⟩ := hSw; (try dsimp only at hSa hSb hSg); go_simp; (try with_reducible rfl)
            try simp only [Act.put, List.setIfInBounds_toArray]
            refine wpAnyH_take (i := 13) (v := ?_) rfl (by kernel_rfl) (by kernel_rfl) (by kernel_rfl) (fun _ _ _ h => h) (Or.inl ⟨by rfl, ?_⟩) (by assumption) ?_
            rotate_left
            · intro wz hSw; obtain ⟨_, hSa, hSb, hSg⟩ := hSw; (try dsimp only at hSa hSb hSg); go_simp; (try with_reducible rfl)
            try simp only [Act.put]
            refine wpAnyH_take (i := 14) (v := ?_) rfl (by kernel_rfl) (by kernel_rfl) (by kernel_rfl) (fun _ _ _ h => h) (Or.inl ⟨by rfl, ?_⟩) (by assumption) ?_
            rotate_left
            · intro wz hSw; obtain ⟨_, hSa, hSb, hSg⟩ := hSw; (try dsimp only at hSa hSb hSg); go_simp; (try with_reducible rfl)
            try simp only [Act.put]
            refine wpAnyH_ready (rs := [16]) (by kernel_rfl) (by simp) ?_
            refine AllReadyH.cons rfl (fun K hK => ?_) AllReadyH.nil
            obtain ⟨gv, hgv⟩ := hHeld.2.2.2
            have t1 := (cells_at hgv).1 0
            have t2 := (cells_at hgv).2.1
            have t3 := (cells_at hgv).2.2
            have h16 := hHeld
            go_simp
            refine hK.out _ _ (sgs_set hHeld (by omega) (fun _ _ _ e => by injection e with e; injection e with e; omega) (fun _ _ _ e => by injection e with e; injection e with e; omega) _) (fun hHeld => ?_)
            clear hK K
            try simp only [Act.put, List.setIfInBounds_toArray, List.set_cons_zero, List.set_cons_succ]
            refine wpAnyH_take (i := 17) (v := ?_) rfl (by kernel_rfl) (by kernel_rfl) (by kernel_rfl) (fun _ _ _ h => h) (Or.inl ⟨by rfl, ?_⟩) (by assumption) ?_
            rotate_left
            · intro wz hSw; obtain ⟨_, hSa, hSb, hSg⟩ := hSw; (try dsimp only at hSa hSb hSg); go_simp; (try with_reducible rfl)
            simp only [Act.put, List.setIfInBounds_toArray, List.getElem_toArray, List.getElem_cons_succ, List.getElem_cons_zero, List.set_cons_zero, List.set_cons_succ]
            refine wpAnyH_done (by kernel_rfl) ?_ _
            repeat (first | go_values | go_skip | go_guarded | go_step | go_upon)
            go_meet
            exact sig_endB hG HW.out hHeld.1 (by simp <;> omega) hgv
    · go_simp
      refine hK.out _ _ (sgs_alloc hHeld _) (fun hHeld2 => ?_)
      clear hK K
      try simp only [Act.put, List.setIfInBounds_toArray, List.set_cons_zero, List.set_cons_succ]
      refine wpAnyH_strong (S' := SgS w1 none none (some (w1.heap.size))) (fun _ h => h.offG) ?_
      first | (have hHeld := sgs_newG (n := w1.heap.size) hHeld2 (by first | rfl | simp)) | (have hHeld := sgs_newGd (n := w1.heap.size) hHeld2 (by first | rfl | simp))
      clear hHeld2
      refine wpAnyH_ready (rs := [0, 6]) (by kernel_rfl) (by simp) ?_
      refine AllReadyH.cons rfl (fun K hK => ?_) (AllReadyH.cons rfl (fun K hK => ?_) AllReadyH.nil)
      · go_simp
        refine hK.out _ _ (sgs_alloc hHeld _) (fun hHeld2 => ?_)
        clear hK K
        try simp only [Act.put, List.setIfInBounds_toArray, List.set_cons_zero, List.set_cons_succ]
        refine wpAnyH_strong (S' := SgS w1 (some (w1.heap.size + 1, a, SA)) none (some (w1.heap.size))) (fun _ h => h.offA) ?_
        first | (have hHeld := sgs_newA (n := w1.heap.size + 1) eA hHeld2 (by first | rfl | simp)) | (have hHeld := sgs_newAd (n := w1.heap.size + 1) eA hHeld2 (by first | rfl | simp))
        clear hHeld2
        refine wpAnyH_take (i := 2) (v := ?_) rfl (by kernel_rfl) (by kernel_rfl) (by kernel_rfl) (fun _ _ _ h => h) (Or.inl ⟨by rfl, ?_⟩) (by assumption) ?_
        rotate_left
        · intro wz hSw; obtain ⟨_, hSa, hSb, hSg⟩ := hSw; (try dsimp only at hSa hSb hSg); go_simp; (try with_reducible rfl)
        try simp only [Act.put, List.setIfInBounds_toArray]
        refine wpAnyH_take (i := 3) (v := ?_) rfl (by kernel_rfl) (by kernel_rfl) (by kernel_rfl) (fun _ _ _ h => h) (Or.inl ⟨by rfl, ?_⟩) (by assumption) ?_
        rotate_left
        · intro wz hSw; obtain ⟨_, hSa, hSb, hSg⟩ := hSw; (try dsimp only at hSa hSb hSg); go_simp; (try with_reducible rfl)
        try simp only [Act.put]
        refine wpAnyH_take (i := 4) (v := ?_) rfl (by kernel_rfl) (by kernel_rfl) (by kernel_rfl) (fun _ _ _ h => h) (Or.inl ⟨by rfl, ?_⟩) (by assumption) ?_
        rotate_left
        · intro wz hSw; obtain ⟨_, hSa, hSb, hSg⟩ := hSw; (try dsimp only at hSa hSb hSg); go_simp; (try with_reducible rfl)
        try simp only [Act.put]
        refine wpAnyH_take (i := 5) (v := ?_) rfl (by kernel_rfl) (by kernel_rfl) (by kernel_rfl) (fun _ _ _ h => h) (Or.inl ⟨by rfl, ?_⟩) (by assumption) ?_
        rotate_left
        · intro wz hSw; obtain ⟨_, hSa, hSb, hSg⟩ := hSw; (try dsimp only at hSa hSb hSg); go_simp; (try with_reducible rfl)
        try simp only [Act.put]
        refine wpAnyH_ready (rs := [6]) (by kernel_rfl) (by simp) ?_
        refine AllReadyH.cons rfl (fun K hK => ?_) AllReadyH.nil
        · go_simp
          refine hK.out _ _ (sgs_alloc hHeld _) (fun hHeld2 => ?_)
          clear hK K
          try simp only [Act.put, List.setIfInBounds_toArray, List.set_cons_zero, List.set_cons_succ]
          refine wpAnyH_strong (S' := SgS w1 (some (w1.heap.size + 1, a, SA)) (some (w1.heap.size + 2, b, SB)) (some (w1.heap.size))) (fun _ h => h.offB) ?_
          first | (have hHeld := sgs_newB (n := w1.heap.size + 2) eB hHeld2 (by first | rfl | simp)) | (have hHeld := sgs_newBd (n := w1.heap.size + 2) eB hHeld2 (by first | rfl | simp))
          clear hHeld2
          refine wpAnyH_take (i := 8) (v := ?_) rfl (by kernel_rfl) (by kernel_rfl) (by kernel_rfl) (fun _ _ _ h => h) (Or.inl ⟨by rfl, ?_⟩) (by assumption) ?_
          rotate_left
          · intro wz hSw; obtain ⟨_, hSa, hSb, hSg⟩ := hSw; (try dsimp only at hSa hSb hSg); go_simp; (try with_reducible rfl)
          try simp only [Act.put, List.setIfInBounds_toArray]
          refine wpAnyH_take (i := 9) (v := ?_) rfl (by kernel_rfl) (by kernel_rfl) (by kernel_rfl) (fun _ _ _ h => h) (Or.inl ⟨by rfl, ?_⟩) (by assumption) ?_
          rotate_left
          · intro wz hSw; obtain ⟨_, hSa, hSb, hSg⟩ := hSw; (try dsimp only at hSa hSb hSg); go_simp; (try with_reducible rfl)
          try simp only [Act.put]
          refine wpAnyH_take (i := 10) (v := ?_) rfl (by kernel_rfl) (by kernel_rfl) (by kernel_rfl) (fun _ _ _ h => h) (Or.inl ⟨by rfl, ?_⟩) (by assumption) ?_
          rotate_left
          · intro wz hSw; obtain ⟨_, hSa, hSb, hSg⟩ := hSw; (try dsimp only at hSa hSb hSg); go_simp; (try with_reducible rfl)
          try simp only [Act.put]
          refine wpAnyH_ready (rs := [11]) (by kernel_rfl) (by simp) ?_
          refine AllReadyH.cons rfl (fun K hK => ?_) AllReadyH.nil
          · go_simp
            refine (sig_parse ha2 hb3 HSA.out HSB.out (HL2.out _ hHeld.1)).mono ?_
            rintro e w2 ⟨⟨gr, cap, p, q, rfl, hG⟩, hb2⟩
            have hz2 : w1.heap.size + 3 ≤ w2.heap.size := by have := hb2.size; simp at this; omega
            dsimp only
            refine hK.out _ _ (sgs_call hHeld hb2) (fun hHeld => ?_)
            clear hK K
            try simp only [Act.put, List.setIfInBounds_toArray, List.set_cons_zero, List.set_cons_succ]
            refine wpAnyH_take (i := 12) (v := ?_) rfl (by kernel_rfl) (by kernel_rfl) (by kernel_rfl) (fun _ _ _ h => h) (Or.inl ⟨by rfl, ?_⟩) (by assumption) ?_
            rotate_left
            · intro wz hSw; obtain ⟨_, hSa, hSb, hSg⟩ := hSw; (try dsimp only at hSa hSb hSg); go_simp; (try with_reducible rfl)
            try simp only [Act.put, List.setIfInBounds_toArray]
            refine wpAnyH_take (i := 13) (v := ?_) rfl (by kernel_rfl) (by kernel_rfl) (by kernel_rfl) (fun _ _ _ h => h) (Or.inl ⟨by rfl, ?_⟩) (by assumption) ?_
            rotate_left
            · intro wz hSw; obtain ⟨_, hSa, hSb, hSg⟩ := hSw; (try dsimp only at hSa hSb hSg); go_simp; (try with_reducible rfl)
            try simp only [Act.put]
            refine wpAnyH_take (i := 14) (v := ?_) rfl (by kernel_rfl) (by kernel_rfl) (by kernel_rfl) (fun _ _ _ h => h) (Or.inl ⟨by rfl, ?_⟩) (by assumption) ?_
            rotate_left
            · intro wz hSw; obtain ⟨_, hSa, hSb, hSg⟩ := hSw; (try dsimp only at hSa hSb hSg); go_simp; (try with_reducible rfl)
            try simp only [Act.put]
            refine wpAnyH_ready (rs := [16]) (by kernel_rfl) (by simp) ?_
            refine AllReadyH.cons rfl (fun K hK => ?_) AllReadyH.nil
            obtain ⟨gv, hgv⟩ := hHeld.2.2.2
            have t1 := (cells_at hgv).1 0
            have t2 := (cells_at hgv).2.1
            have t3 := (cells_at hgv).2.2
            have h16 := hHeld
            go_simp
            refine hK.out _ _ (sgs_set hHeld (by omega) (fun _ _ _ e => by injection e with e; injection e with e; omega) (fun _ _ _ e => by injection e with e; injection e with e; omega) _) (fun hHeld => ?_)
            clear hK K
            try simp only [Act.put, List.setIfInBounds_toArray, List.set_cons_zero, List.set_cons_succ]
            refine wpAnyH_take (i := 17) (v := ?_) rfl (by kernel_rfl) (by kernel_rfl) (by kernel_rfl) (fun _ _ _ h => h) (Or.inl ⟨by rfl, ?_⟩) (by assumption) ?_
            rotate_left
            · intro wz hSw; obtain ⟨_, hSa, hSb, hSg⟩ := hSw; (try dsimp only at hSa hSb hSg); go_simp; (try with_reducible rfl)
            simp only [Act.put, List.setIfInBounds_toArray, List.getElem_toArray, List.getElem_cons_succ, List.getElem_cons_zero, List.set_cons_zero, List.set_cons_succ]
            refine wpAnyH_done (by kernel_rfl) ?_ _
            repeat (first | go_values | go_skip | go_guarded | go_step | go_upon)
            go_meet
            exact sig_endB hG HW.out hHeld.1 (by simp <;> omega) hgv
      · go_simp
        refine hK.out _ _ (sgs_alloc hHeld _) (fun hHeld2 => ?_)
        clear hK K
        try simp only [Act.put, List.setIfInBounds_toArray, List.set_cons_zero, List.set_cons_succ]
        refine wpAnyH_strong (S' := SgS w1 none (some (w1.heap.size + 1, b, SB)) (some (w1.heap.size))) (fun _ h => h.offB) ?_
        first | (have hHeld := sgs_newB (n := w1.heap.size + 1) eB hHeld2 (by first | rfl | simp)) | (have hHeld := sgs_newBd (n := w1.heap.size + 1) eB hHeld2 (by first | rfl | simp))
        clear hHeld2
        refine wpAnyH_take (i := 8) (v := ?_) rfl (by kernel_rfl) (by kernel_rfl) (by kernel_rfl) (fun _ _ _ h => h) (Or.inl ⟨by rfl, ?_⟩) (by assumption) ?_
        rotate_left
        · intro wz hSw; obtain ⟨_, hSa, hSb, hSg⟩ := hSw; (try dsimp only at hSa hSb hSg); go_simp; (try with_reducible rfl)
        try simp only [Act.put, List.setIfInBounds_toArray]
        refine wpAnyH_take (i := 9) (v := ?_) rfl (by kernel_rfl) (by kernel_rfl) (by kernel_rfl) (fun _ _ _ h => h) (Or.inl ⟨by rfl, ?_⟩) (by assumption) ?_
        rotate_left
        · intro wz hSw; obtain ⟨_, hSa, hSb, hSg⟩ := hSw; (try dsimp only at hSa hSb hSg); go_simp; (try with_reducible rfl)
        try simp only [Act.put]
        refine wpAnyH_ready (rs := [0]) (by kernel_rfl) (by simp) ?_
        refine AllReadyH.cons rfl (fun K hK => ?_) AllReadyH.nil
        · go_simp
          refine hK.out _ _ (sgs_alloc hHeld _) (fun hHeld2 => ?_)
          clear hK K
          try simp only [Act.put, List.setIfInBounds_toArray, List.set_cons_zero, List.set_cons_succ]
          refine wpAnyH_strong (S' := SgS w1 (some (w1.heap.size + 2, a, SA)) (some (w1.heap.size + 1, b, SB)) (some (w1.heap.size))) (fun _ h => h.offA) ?_
          first | (have hHeld := sgs_newA (n := w1.heap.size + 2) eA hHeld2 (by first | rfl | simp)) | (have hHeld := sgs_newAd (n := w1.heap.size + 2) eA hHeld2 (by first | rfl | simp))
          clear hHeld2
          refine wpAnyH_take (i := 2) (v := ?_) rfl (by kernel_rfl) (by kernel_rfl) (by kernel_rfl) (fun _ _ _ h => h) (Or.inl ⟨by rfl, ?_⟩) (by assumption) ?_
          rotate_left
          · intro wz hSw; obtain ⟨_, hSa, hSb, hSg⟩ := hSw; (try dsimp only at hSa hSb hSg); go_simp; (try with_reducible rfl)
          try simp only [Act.put, List.setIfInBounds_toArray]
          refine wpAnyH_take (i := 3) (v := ?_) rfl (by kernel_rfl) (by kernel_rfl) (by kernel_rfl) (fun _ _ _ h => h) (Or.inl ⟨by rfl, ?_⟩) (by assumption) ?_
          rotate_left
          · intro wz hSw; obtain ⟨_, hSa, hSb, hSg⟩ := hSw; (try dsimp only at hSa hSb hSg); go_simp; (try with_reducible rfl)
          try simp only [Act.put]
          refine wpAnyH_take (i := 4) (v := ?_) rfl (by kernel_rfl) (by kernel_rfl) (by kernel_rfl) (fun _ _ _ h => h) (Or.inl ⟨by rfl, ?_⟩) (by assumption) ?_
          rotate_left
          · intro wz hSw; obtain ⟨_, hSa, hSb, hSg⟩ := hSw; (try dsimp only at hSa hSb hSg); go_simp; (try with_reducible rfl)
          try simp only [Act.put]
          refine wpAnyH_take (i := 5) (v := ?_) rfl (by kernel_rfl) (by kernel_rfl) (by kernel_rfl) (fun _ _ _ h => h) (Or.inl ⟨by rfl, ?_⟩) (by assumption) ?_
          rotate_left
          · intro wz hSw; obtain ⟨_, hSa, hSb, hSg⟩ := hSw; (try dsimp only at hSa hSb hSg); go_simp; (try with_reducible rfl)
          try simp only [Act.put]
          refine wpAnyH_take (i := 10) (v := ?_) rfl (by kernel_rfl) (by kernel_rfl) (by kernel_rfl) (fun _ _ _ h => h) (Or.inl ⟨by rfl, ?_⟩) (by assumption) ?_
          rotate_left
          · intro wz hSw; obtain ⟨_, hSa, hSb, hSg⟩ := hSw; (try dsimp only at hSa hSb hSg); go_simp; (try with_reducible rfl)
          try simp only [Act.put]
          refine wpAnyH_ready (rs := [11]) (by kernel_rfl) (by simp) ?_
          refine AllReadyH.cons rfl (fun K hK => ?_) AllReadyH.nil
          · go_simp
            refine (sig_parse ha2 hb3 HSA.out HSB.out (HL2.out _ hHeld.1)).mono ?_
            rintro e w2 ⟨⟨gr, cap, p, q, rfl, hG⟩, hb2⟩
            have hz2 : w1.heap.size + 3 ≤ w2.heap.size := by have := hb2.size; simp at this; omega
            dsimp only
            refine hK.out _ _ (sgs_call hHeld hb2) (fun hHeld => ?_)
            clear hK K
            try simp only [Act.put, List.setIfInBounds_toArray, List.set_cons_zero, List.set_cons_succ]
            refine wpAnyH_take (i := 12) (v := ?_) rfl (by kernel_rfl) (by kernel_rfl) (by kernel_rfl) (fun _ _ _ h => h) (Or.inl ⟨by rfl, ?_⟩) (by assumption) ?_
            rotate_left
            · intro wz hSw; obtain ⟨_, hSa, hSb, hSg⟩ := hSw; (try dsimp only at hSa hSb hSg); go_simp; (try with_reducible rfl)
            try simp only [Act.put, List.setIfInBounds_toArray]
            refine wpAnyH_take (i := 13) (v := ?_) rfl (by kernel_rfl) (by kernel_rfl) (by kernel_rfl) (fun _ _ _ h => h) (Or.inl ⟨by rfl, ?_⟩) (by assumption) ?_
            rotate_left
            · intro wz hSw; obtain ⟨_, hSa, hSb, hSg⟩ := hSw; (try dsimp only at hSa hSb hSg); go_simp; (try with_reducible rfl)
            try simp only [Act.put]
            refine wpAnyH_take (i := 14) (v := ?_) rfl (by kernel_rfl) (by kernel_rfl) (by kernel_rfl) (fun _ _ _ h => h) (Or.inl ⟨by rfl, ?_⟩) (by assumption) ?_
            rotate_left
            · intro wz hSw; obtain ⟨_, hSa, hSb, hSg⟩ := hSw; (try dsimp only at hSa hSb hSg); go_simp; (try with_reducible rfl)
            try simp only [Act.put]
            refine wpAnyH_ready (rs := [16]) (by kernel_rfl) (by simp) ?_
            refine AllReadyH.cons rfl (fun K hK => ?_) AllReadyH.nil
            obtain ⟨gv, hgv⟩ := hHeld.2.2.2
            have t1 := (cells_at hgv).1 0
            have t2 := (cells_at hgv).2.1
            have t3 := (cells_at hgv).2.2
            have h16 := hHeld
            go_simp
            refine hK.out _ _ (sgs_set hHeld (by omega) (fun _ _ _ e => by injection e with e; injection e with e; omega) (fun _ _ _ e => by injection e with e; injection e with e; omega) _) (fun hHeld => ?_)
            clear hK K
            try simp only [Act.put, List.setIfInBounds_toArray, List.set_cons_zero, List.set_cons_succ]
            refine wpAnyH_take (i := 17) (v := ?_) rfl (by kernel_rfl) (by kernel_rfl) (by kernel_rfl) (fun _ _ _ h => h) (Or.inl ⟨by rfl, ?_⟩) (by assumption) ?_
            rotate_left
            · intro wz hSw; obtain ⟨_, hSa, hSb, hSg⟩ := hSw; (try dsimp only at hSa hSb hSg); go_simp; (try with_reducible rfl)
            simp only [Act.put, List.setIfInBounds_toArray, List.getElem_toArray, List.getElem_cons_succ, List.getElem_cons_zero, List.set_cons_zero, List.set_cons_succ]
            refine wpAnyH_done (by kernel_rfl) ?_ _
            repeat (first | go_values | go_skip | go_guarded | go_step | go_upon)
            go_meet
            exact sig_endB hG HW.out hHeld.1 (by simp <;> omega) hgv
    -- END OF REGION 4
  case rest =>
    obtain ⟨hV, hbx⟩ := hcut
    obtain ⟨rfl, g, gr, cap, rfl, c8, q8, p, q, P, hG, hP⟩ := hV
    obtain ⟨b', cap', cur, cs, hv', hPg, hh, hcap, hmax, ht, hrr⟩ := hG.row (by simp)
    injection hv' with hv1 hv2 hv3
    injection hv1 with hv1
    injection hv1 with hv1
    subst hv1
    obtain ⟨k3, t3, x3, sa3, sn3, sc3, q0, a9, a0, a1, a2, a3, a4, a5, a6, a7, a8⟩ := rule_cells rfl hh ht hrr (k := 0) rfl
    have qg := (Array.getElem?_eq_some_iff.1 hh).1
    obtain ⟨ps, hps⟩ : ∃ ps : Nat, ps = (sigN a b p q).pos := ⟨_, rfl⟩
    have HQ := Lib.hid (show Rep wc P (sigN a b p q) (ndC k3 t3 x3 (.slice sa3 sn3 sc3) ps) by rw [hps]; exact q0)
    have HBX := Lib.hid hbx
    have HPP := Lib.hid hP
    have c1 : wc.cell? ⟨gr, 1, none⟩ = some (.int .i64 (k3 : Int)) := a0
    have c2 : wc.cell? ⟨gr, 2, none⟩ = some (.string (mkS t3)) := a1
    have c3 : wc.cell? ⟨gr, 3, none⟩ = some (.int .u64 (wd x3 0)) := a2
    have c4 : wc.cell? ⟨gr, 4, none⟩ = some (.int .u64 (wd x3 1)) := a3
    have c5 : wc.cell? ⟨gr, 5, none⟩ = some (.int .u64 (wd x3 2)) := a4
    have c6 : wc.cell? ⟨gr, 6, none⟩ = some (.int .u64 (wd x3 3)) := a5
    have c7 : wc.cell? ⟨gr, 7, none⟩ = some (.slice sa3 sn3 sc3) := a6
    have c9 : wc.cell? ⟨gr, 8, none⟩ = some (.int .i64 (ps : Int)) := by rw [hps]; exact a7
    clear a0 a1 a2 a3 a4 a5 a6 a7 a8 a9 hh ht hrr hG hPg hv2 hv3 hbx hP q0 hps
    have hq8 := q8
    by_cases hb0 : b = 0
    · by_cases ha0 : a = 0
      · have d1 : decide ((b : Int) > 0) = false := by simp; omega
        have d2 : decide ((a : Int) > 0) = false := by simp; omega
        have d3 : decide ((0 : Int) < b) = false := by simp; omega
        have d3n : decide (0 < b) = false := by simp; omega
        have d4 : decide ((0 : Int) < a) = false := by simp; omega
        have d4n : decide (0 < a) = false := by simp; omega
        have hBW : Below wc.heap.size wc (wc.alloc (.cells #[.int .i64 5, .string ⟨#[98]⟩, .int .u64 0, .int .u64 0, .int .u64 0, .int .u64 0, .slice none 0 0, .int .i64 0] 36)) := bal (Below.refl _ wc) _
        have zW : (wc.alloc (.cells #[.int .i64 5, .string ⟨#[98]⟩, .int .u64 0, .int .u64 0, .int .u64 0, .int .u64 0, .slice none 0 0, .int .i64 0] 36)).heap.size = wc.heap.size + 1 := by simp
        have xN : (wc.alloc (.cells #[.int .i64 5, .string ⟨#[98]⟩, .int .u64 0, .int .u64 0, .int .u64 0, .int .u64 0, .slice none 0 0, .int .i64 0] 36)).heap[wc.heap.size]? = some (.cells #[.int .i64 5, .string ⟨#[98]⟩, .int .u64 0, .int .u64 0, .int .u64 0, .int .u64 0, .slice none 0 0, .int .i64 0] 36 (0, 0)) := heap_alloc_new wc _
        have hrep : RepA (wc.alloc (.cells #[.int .i64 5, .string ⟨#[98]⟩, .int .u64 0, .int .u64 0, .int .u64 0, .int .u64 0, .slice none 0 0, .int .i64 0] 36)) (fun x => wc.heap.size ≤ x ∧ x < wc.heap.size + 1) (.mk 5 [98] 0 [] 0) [.int .i64 5, .string ⟨#[98]⟩, .int .u64 0, .int .u64 0, .int .u64 0, .int .u64 0, .slice none 0 0, .int .i64 0] := sig_leaf _ _
        have hsame : SameT false (sigN a b p q).tr (.mk 5 [98] 0 [] 0) := by
          simp only [sigN, sigM, if_pos ha0, if_pos hb0, Nd.tr, Nd.trs]
          exact .mk (fun e => by cases e) .nil
        have HSd := Lib.hid (fun (d : Nat) (os : Array Obj) => sameT_any false (sigN a b p q).tr (.mk 5 [98] 0 [] 0) (grow (redrawn (wc.alloc (.cells #[.int .i64 5, .string ⟨#[98]⟩, .int .u64 0, .int .u64 0, .int .u64 0, .int .u64 0, .slice none 0 0, .int .i64 0] 36)) d) os) P (fun x => wc.heap.size ≤ x ∧ x < wc.heap.size + 1) _ _ hsame (HQ.out.anyT.mono (w' := grow (redrawn (wc.alloc (.cells #[.int .i64 5, .string ⟨#[98]⟩, .int .u64 0, .int .u64 0, .int .u64 0, .int .u64 0, .slice none 0 0, .int .i64 0] 36)) d) os) (fun z hz => ((below_regrown (wc.alloc (.cells #[.int .i64 5, .string ⟨#[98]⟩, .int .u64 0, .int .u64 0, .int .u64 0, .int .u64 0, .slice none 0 0, .int .i64 0] 36)) d os).block z (by rw [zW]; have := HPP.out z hz; omega)).trans (hBW.block z (HPP.out z hz))) (fun _ h => h)) (hrep.mono (w' := grow (redrawn (wc.alloc (.cells #[.int .i64 5, .string ⟨#[98]⟩, .int .u64 0, .int .u64 0, .int .u64 0, .int .u64 0, .slice none 0 0, .int .i64 0] 36)) d) os) (fun z hz => (below_regrown (wc.alloc (.cells #[.int .i64 5, .string ⟨#[98]⟩, .int .u64 0, .int .u64 0, .int .u64 0, .int .u64 0, .slice none 0 0, .int .i64 0] 36)) d os).block z (by rw [zW]; exact hz.2)) (fun _ h => h)) (fun z hz => by have h1 := (below_regrown (wc.alloc (.cells #[.int .i64 5, .string ⟨#[98]⟩, .int .u64 0, .int .u64 0, .int .u64 0, .int .u64 0, .slice none 0 0, .int .i64 0] 36)) d os).size; rw [zW] at h1; have := HPP.out z hz; omega) (fun z hz => by have h1 := (below_regrown (wc.alloc (.cells #[.int .i64 5, .string ⟨#[98]⟩, .int .u64 0, .int .u64 0, .int .u64 0, .int .u64 0, .slice none 0 0, .int .i64 0] 36)) d os).size; rw [zW] at h1; have := hz.2; omega))
        dsimp only [ndC] at HSd
        have e0 := (cells_at xN).1 0
        have e1 := (cells_at xN).1 1
        have e2 := (cells_at xN).1 2
        have e3 := (cells_at xN).1 3
        have e4 := (cells_at xN).1 4
        have e5 := (cells_at xN).1 5
        have e6 := (cells_at xN).1 6
        have e7 := (cells_at xN).1 7
        have HBW := Lib.hid hBW
        have HBY := Lib.hid (HBX.out.trans (hBW.mono HBX.out.size))
        have g1 : g < wc.heap.size + 1 := by omega
        have r1 : gr < wc.heap.size + 1 := by omega
        clear hrep hsame hBW xN
        clear ha0 hb0
        repeat (first | go_values | go_skip | go_guarded | go_step | go_upon)
        have hG := grown_cell
        have g5_0 : g < wc.heap.size + 1 := by omega
        have g5_1 : gr < wc.heap.size + 1 := by omega
        have g5_2 : wc.heap.size < wc.heap.size + 1 := by omega
        refine wp_region_qb (by kernel_rfl) (by kernel_rfl) ?_
        repeat (quiet_step (first | (with_reducible exact ans_quiet (HSd.out _ _))))
        apply wpQuiet_nil
        intro w5 hb5
        clear hG
        repeat (first | go_values | go_skip | go_guarded | go_step | go_upon)
        go_ret
        exact ⟨rfl, HBY.out.trans (hb5.mono (by have h1 := HBX.out.size; have h2 := HBW.out.size; omega))⟩
      · have d1 : decide ((b : Int) > 0) = false := by simp; omega
        have d3 : decide ((0 : Int) < b) = false := by simp; omega
        have d3n : decide (0 < b) = false := by simp; omega
        have d2 : decide ((a : Int) > 0) = true := by simp; omega
        have d4 : decide ((0 : Int) < a) = true := by simp; omega
        have d4n : decide (0 < a) = true := by simp; omega
        have k4 : IntKind.i64.wrap (11 + (a : Int)) = 11 + (a : Int) := by rw [IntKind.wrap_i64]; omega
        have k5 : IntKind.i64.wrap (11 + (a : Int) - 1) = (10 + (a : Int)) := by rw [IntKind.wrap_i64]; omega
        have hBW : Below wc.heap.size wc ((wc.alloc (.cells #[.int .i64 (10 + (a : Int)), .string ⟨#[]⟩, .int .u64 0, .int .u64 0, .int .u64 0, .int .u64 0, .slice (some ⟨wc.heap.size + 1, 0, none⟩) 1 1, .int .i64 0] 36)).alloc (.cells #[.int .i64 5, .string ⟨#[98]⟩, .int .u64 0, .int .u64 0, .int .u64 0, .int .u64 0, .slice none 0 0, .int .i64 0] 36)) := bal (bal (Below.refl _ wc) _) _
        have zW : ((wc.alloc (.cells #[.int .i64 (10 + (a : Int)), .string ⟨#[]⟩, .int .u64 0, .int .u64 0, .int .u64 0, .int .u64 0, .slice (some ⟨wc.heap.size + 1, 0, none⟩) 1 1, .int .i64 0] 36)).alloc (.cells #[.int .i64 5, .string ⟨#[98]⟩, .int .u64 0, .int .u64 0, .int .u64 0, .int .u64 0, .slice none 0 0, .int .i64 0] 36)).heap.size = wc.heap.size + 1 + 1 := by simp
        have xN : ((wc.alloc (.cells #[.int .i64 (10 + (a : Int)), .string ⟨#[]⟩, .int .u64 0, .int .u64 0, .int .u64 0, .int .u64 0, .slice (some ⟨wc.heap.size + 1, 0, none⟩) 1 1, .int .i64 0] 36)).alloc (.cells #[.int .i64 5, .string ⟨#[98]⟩, .int .u64 0, .int .u64 0, .int .u64 0, .int .u64 0, .slice none 0 0, .int .i64 0] 36)).heap[wc.heap.size]? = some (.cells #[.int .i64 (10 + (a : Int)), .string ⟨#[]⟩, .int .u64 0, .int .u64 0, .int .u64 0, .int .u64 0, .slice (some ⟨wc.heap.size + 1, 0, none⟩) 1 1, .int .i64 0] 36 (0, 0)) := (RowKit.Below.heap_alloc _ _ _ (by simp <;> omega)).trans (heap_alloc_new wc _)
        have x0 : ((wc.alloc (.cells #[.int .i64 (10 + (a : Int)), .string ⟨#[]⟩, .int .u64 0, .int .u64 0, .int .u64 0, .int .u64 0, .slice (some ⟨wc.heap.size + 1, 0, none⟩) 1 1, .int .i64 0] 36)).alloc (.cells #[.int .i64 5, .string ⟨#[98]⟩, .int .u64 0, .int .u64 0, .int .u64 0, .int .u64 0, .slice none 0 0, .int .i64 0] 36)).heap[wc.heap.size + 1]? = some (.cells #[.int .i64 5, .string ⟨#[98]⟩, .int .u64 0, .int .u64 0, .int .u64 0, .int .u64 0, .slice none 0 0, .int .i64 0] 36 (0, 0)) := by have h := heap_alloc_new (wc.alloc (.cells #[.int .i64 (10 + (a : Int)), .string ⟨#[]⟩, .int .u64 0, .int .u64 0, .int .u64 0, .int .u64 0, .slice (some ⟨wc.heap.size + 1, 0, none⟩) 1 1, .int .i64 0] 36)) (.cells #[.int .i64 5, .string ⟨#[98]⟩, .int .u64 0, .int .u64 0, .int .u64 0, .int .u64 0, .slice none 0 0, .int .i64 0] 36); simpa using h
        have hrep : RepA ((wc.alloc (.cells #[.int .i64 (10 + (a : Int)), .string ⟨#[]⟩, .int .u64 0, .int .u64 0, .int .u64 0, .int .u64 0, .slice (some ⟨wc.heap.size + 1, 0, none⟩) 1 1, .int .i64 0] 36)).alloc (.cells #[.int .i64 5, .string ⟨#[98]⟩, .int .u64 0, .int .u64 0, .int .u64 0, .int .u64 0, .slice none 0 0, .int .i64 0] 36)) (fun x => wc.heap.size ≤ x ∧ x < wc.heap.size + 1 + 1) (.mk (10 + (a : Int)) [] 0 [.mk 5 [98] 0 [] 0] 0) [.int .i64 (10 + (a : Int)), .string ⟨#[]⟩, .int .u64 0, .int .u64 0, .int .u64 0, .int .u64 0, .slice (some ⟨wc.heap.size + 1, 0, none⟩) 1 1, .int .i64 0] := sig_node (g := wc.heap.size + 1) (show wc.heap.size ≤ wc.heap.size + 1 ∧ wc.heap.size + 1 < wc.heap.size + 1 + 1 by omega) x0 (by rfl) (sig_leaf _ _)
        have hsame : SameT false (sigN a b p q).tr (.mk (10 + (a : Int)) [] 0 [.mk 5 [98] 0 [] 0] 0) := by
          simp only [sigN, sigM, if_neg ha0, if_pos hb0, Nd.tr, Nd.trs, show ((10 + a : Nat) : Int) = 10 + (a : Int) by omega]
          exact .mk (fun e => by cases e) (.cons (.mk (fun e => by cases e) .nil) .nil)
        have HSd := Lib.hid (fun (d : Nat) (os : Array Obj) => sameT_any false (sigN a b p q).tr (.mk (10 + (a : Int)) [] 0 [.mk 5 [98] 0 [] 0] 0) (grow (redrawn ((wc.alloc (.cells #[.int .i64 (10 + (a : Int)), .string ⟨#[]⟩, .int .u64 0, .int .u64 0, .int .u64 0, .int .u64 0, .slice (some ⟨wc.heap.size + 1, 0, none⟩) 1 1, .int .i64 0] 36)).alloc (.cells #[.int .i64 5, .string ⟨#[98]⟩, .int .u64 0, .int .u64 0, .int .u64 0, .int .u64 0, .slice none 0 0, .int .i64 0] 36)) d) os) P (fun x => wc.heap.size ≤ x ∧ x < wc.heap.size + 1 + 1) _ _ hsame (HQ.out.anyT.mono (w' := grow (redrawn ((wc.alloc (.cells #[.int .i64 (10 + (a : Int)), .string ⟨#[]⟩, .int .u64 0, .int .u64 0, .int .u64 0, .int .u64 0, .slice (some ⟨wc.heap.size + 1, 0, none⟩) 1 1, .int .i64 0] 36)).alloc (.cells #[.int .i64 5, .string ⟨#[98]⟩, .int .u64 0, .int .u64 0, .int .u64 0, .int .u64 0, .slice none 0 0, .int .i64 0] 36)) d) os) (fun z hz => ((below_regrown ((wc.alloc (.cells #[.int .i64 (10 + (a : Int)), .string ⟨#[]⟩, .int .u64 0, .int .u64 0, .int .u64 0, .int .u64 0, .slice (some ⟨wc.heap.size + 1, 0, none⟩) 1 1, .int .i64 0] 36)).alloc (.cells #[.int .i64 5, .string ⟨#[98]⟩, .int .u64 0, .int .u64 0, .int .u64 0, .int .u64 0, .slice none 0 0, .int .i64 0] 36)) d os).block z (by rw [zW]; have := HPP.out z hz; omega)).trans (hBW.block z (HPP.out z hz))) (fun _ h => h)) (hrep.mono (w' := grow (redrawn ((wc.alloc (.cells #[.int .i64 (10 + (a : Int)), .string ⟨#[]⟩, .int .u64 0, .int .u64 0, .int .u64 0, .int .u64 0, .slice (some ⟨wc.heap.size + 1, 0, none⟩) 1 1, .int .i64 0] 36)).alloc (.cells #[.int .i64 5, .string ⟨#[98]⟩, .int .u64 0, .int .u64 0, .int .u64 0, .int .u64 0, .slice none 0 0, .int .i64 0] 36)) d) os) (fun z hz => (below_regrown ((wc.alloc (.cells #[.int .i64 (10 + (a : Int)), .string ⟨#[]⟩, .int .u64 0, .int .u64 0, .int .u64 0, .int .u64 0, .slice (some ⟨wc.heap.size + 1, 0, none⟩) 1 1, .int .i64 0] 36)).alloc (.cells #[.int .i64 5, .string ⟨#[98]⟩, .int .u64 0, .int .u64 0, .int .u64 0, .int .u64 0, .slice none 0 0, .int .i64 0] 36)) d os).block z (by rw [zW]; exact hz.2)) (fun _ h => h)) (fun z hz => by have h1 := (below_regrown ((wc.alloc (.cells #[.int .i64 (10 + (a : Int)), .string ⟨#[]⟩, .int .u64 0, .int .u64 0, .int .u64 0, .int .u64 0, .slice (some ⟨wc.heap.size + 1, 0, none⟩) 1 1, .int .i64 0] 36)).alloc (.cells #[.int .i64 5, .string ⟨#[98]⟩, .int .u64 0, .int .u64 0, .int .u64 0, .int .u64 0, .slice none 0 0, .int .i64 0] 36)) d os).size; rw [zW] at h1; have := HPP.out z hz; omega) (fun z hz => by have h1 := (below_regrown ((wc.alloc (.cells #[.int .i64 (10 + (a : Int)), .string ⟨#[]⟩, .int .u64 0, .int .u64 0, .int .u64 0, .int .u64 0, .slice (some ⟨wc.heap.size + 1, 0, none⟩) 1 1, .int .i64 0] 36)).alloc (.cells #[.int .i64 5, .string ⟨#[98]⟩, .int .u64 0, .int .u64 0, .int .u64 0, .int .u64 0, .slice none 0 0, .int .i64 0] 36)) d os).size; rw [zW] at h1; have := hz.2; omega))
        dsimp only [ndC] at HSd
        have e0 := (cells_at xN).1 0
        have e1 := (cells_at xN).1 1
        have e2 := (cells_at xN).1 2
        have e3 := (cells_at xN).1 3
        have e4 := (cells_at xN).1 4
        have e5 := (cells_at xN).1 5
        have e6 := (cells_at xN).1 6
        have e7 := (cells_at xN).1 7
        have HBW := Lib.hid hBW
        have HBY := Lib.hid (HBX.out.trans (hBW.mono HBX.out.size))
        have g1 : g < wc.heap.size + 1 := by omega
        have r1 : gr < wc.heap.size + 1 := by omega
        have g2 : g < wc.heap.size + 1 + 1 := by omega
        have r2 : gr < wc.heap.size + 1 + 1 := by omega
        clear hrep hsame hBW xN x0
        clear ha0 hb0
        repeat (first | go_values | go_skip | go_guarded | go_step | go_upon)
        have hG := grown_cell
        have g5_0 : g < wc.heap.size + 1 + 1 := by omega
        have g5_1 : gr < wc.heap.size + 1 + 1 := by omega
        have g5_2 : wc.heap.size < wc.heap.size + 1 + 1 := by omega
        refine wp_region_qb (by kernel_rfl) (by kernel_rfl) ?_
        repeat (quiet_step (first | (with_reducible exact ans_quiet (HSd.out _ _))))
        apply wpQuiet_nil
        intro w5 hb5
        clear hG
        repeat (first | go_values | go_skip | go_guarded | go_step | go_upon)
        go_ret
        exact ⟨rfl, HBY.out.trans (hb5.mono (by have h1 := HBX.out.size; have h2 := HBW.out.size; omega))⟩
    · by_cases ha0 : a = 0
      · have d2 : decide ((a : Int) > 0) = false := by simp; omega
        have d4 : decide ((0 : Int) < a) = false := by simp; omega
        have d4n : decide (0 < a) = false := by simp; omega
        have d1 : decide ((b : Int) > 0) = true := by simp; omega
        have d3 : decide ((0 : Int) < b) = true := by simp; omega
        have d3n : decide (0 < b) = true := by simp; omega
        have k1 : IntKind.i64.wrap (8 + (b : Int)) = 8 + (b : Int) := by rw [IntKind.wrap_i64]; omega
        have k2 : IntKind.i64.wrap (8 + (b : Int) - 1) = (7 + (b : Int)) := by rw [IntKind.wrap_i64]; omega
        have hBW : Below wc.heap.size wc ((wc.alloc (.cells #[.int .i64 (7 + (b : Int)), .string ⟨#[]⟩, .int .u64 0, .int .u64 0, .int .u64 0, .int .u64 0, .slice (some ⟨wc.heap.size + 1, 0, none⟩) 1 1, .int .i64 0] 36)).alloc (.cells #[.int .i64 5, .string ⟨#[98]⟩, .int .u64 0, .int .u64 0, .int .u64 0, .int .u64 0, .slice none 0 0, .int .i64 0] 36)) := bal (bal (Below.refl _ wc) _) _
        have zW : ((wc.alloc (.cells #[.int .i64 (7 + (b : Int)), .string ⟨#[]⟩, .int .u64 0, .int .u64 0, .int .u64 0, .int .u64 0, .slice (some ⟨wc.heap.size + 1, 0, none⟩) 1 1, .int .i64 0] 36)).alloc (.cells #[.int .i64 5, .string ⟨#[98]⟩, .int .u64 0, .int .u64 0, .int .u64 0, .int .u64 0, .slice none 0 0, .int .i64 0] 36)).heap.size = wc.heap.size + 1 + 1 := by simp
        have xN : ((wc.alloc (.cells #[.int .i64 (7 + (b : Int)), .string ⟨#[]⟩, .int .u64 0, .int .u64 0, .int .u64 0, .int .u64 0, .slice (some ⟨wc.heap.size + 1, 0, none⟩) 1 1, .int .i64 0] 36)).alloc (.cells #[.int .i64 5, .string ⟨#[98]⟩, .int .u64 0, .int .u64 0, .int .u64 0, .int .u64 0, .slice none 0 0, .int .i64 0] 36)).heap[wc.heap.size]? = some (.cells #[.int .i64 (7 + (b : Int)), .string ⟨#[]⟩, .int .u64 0, .int .u64 0, .int .u64 0, .int .u64 0, .slice (some ⟨wc.heap.size + 1, 0, none⟩) 1 1, .int .i64 0] 36 (0, 0)) := (RowKit.Below.heap_alloc _ _ _ (by simp <;> omega)).trans (heap_alloc_new wc _)
        have x0 : ((wc.alloc (.cells #[.int .i64 (7 + (b : Int)), .string ⟨#[]⟩, .int .u64 0, .int .u64 0, .int .u64 0, .int .u64 0, .slice (some ⟨wc.heap.size + 1, 0, none⟩) 1 1, .int .i64 0] 36)).alloc (.cells #[.int .i64 5, .string ⟨#[98]⟩, .int .u64 0, .int .u64 0, .int .u64 0, .int .u64 0, .slice none 0 0, .int .i64 0] 36)).heap[wc.heap.size + 1]? = some (.cells #[.int .i64 5, .string ⟨#[98]⟩, .int .u64 0, .int .u64 0, .int .u64 0, .int .u64 0, .slice none 0 0, .int .i64 0] 36 (0, 0)) := by have h := heap_alloc_new (wc.alloc (.cells #[.int .i64 (7 + (b : Int)), .string ⟨#[]⟩, .int .u64 0, .int .u64 0, .int .u64 0, .int .u64 0, .slice (some ⟨wc.heap.size + 1, 0, none⟩) 1 1, .int .i64 0] 36)) (.cells #[.int .i64 5, .string ⟨#[98]⟩, .int .u64 0, .int .u64 0, .int .u64 0, .int .u64 0, .slice none 0 0, .int .i64 0] 36); simpa using h
        have hrep : RepA ((wc.alloc (.cells #[.int .i64 (7 + (b : Int)), .string ⟨#[]⟩, .int .u64 0, .int .u64 0, .int .u64 0, .int .u64 0, .slice (some ⟨wc.heap.size + 1, 0, none⟩) 1 1, .int .i64 0] 36)).alloc (.cells #[.int .i64 5, .string ⟨#[98]⟩, .int .u64 0, .int .u64 0, .int .u64 0, .int .u64 0, .slice none 0 0, .int .i64 0] 36)) (fun x => wc.heap.size ≤ x ∧ x < wc.heap.size + 1 + 1) (.mk (7 + (b : Int)) [] 0 [.mk 5 [98] 0 [] 0] 0) [.int .i64 (7 + (b : Int)), .string ⟨#[]⟩, .int .u64 0, .int .u64 0, .int .u64 0, .int .u64 0, .slice (some ⟨wc.heap.size + 1, 0, none⟩) 1 1, .int .i64 0] := sig_node (g := wc.heap.size + 1) (show wc.heap.size ≤ wc.heap.size + 1 ∧ wc.heap.size + 1 < wc.heap.size + 1 + 1 by omega) x0 (by rfl) (sig_leaf _ _)
        have hsame : SameT false (sigN a b p q).tr (.mk (7 + (b : Int)) [] 0 [.mk 5 [98] 0 [] 0] 0) := by
          simp only [sigN, sigM, if_pos ha0, if_neg hb0, Nd.tr, Nd.trs, show ((7 + b : Nat) : Int) = 7 + (b : Int) by omega]
          exact .mk (fun e => by cases e) (.cons (.mk (fun e => by cases e) .nil) .nil)
        have HSd := Lib.hid (fun (d : Nat) (os : Array Obj) => sameT_any false (sigN a b p q).tr (.mk (7 + (b : Int)) [] 0 [.mk 5 [98] 0 [] 0] 0) (grow (redrawn ((wc.alloc (.cells #[.int .i64 (7 + (b : Int)), .string ⟨#[]⟩, .int .u64 0, .int .u64 0, .int .u64 0, .int .u64 0, .slice (some ⟨wc.heap.size + 1, 0, none⟩) 1 1, .int .i64 0] 36)).alloc (.cells #[.int .i64 5, .string ⟨#[98]⟩, .int .u64 0, .int .u64 0, .int .u64 0, .int .u64 0, .slice none 0 0, .int .i64 0] 36)) d) os) P (fun x => wc.heap.size ≤ x ∧ x < wc.heap.size + 1 + 1) _ _ hsame (HQ.out.anyT.mono (w' := grow (redrawn ((wc.alloc (.cells #[.int .i64 (7 + (b : Int)), .string ⟨#[]⟩, .int .u64 0, .int .u64 0, .int .u64 0, .int .u64 0, .slice (some ⟨wc.heap.size + 1, 0, none⟩) 1 1, .int .i64 0] 36)).alloc (.cells #[.int .i64 5, .string ⟨#[98]⟩, .int .u64 0, .int .u64 0, .int .u64 0, .int .u64 0, .slice none 0 0, .int .i64 0] 36)) d) os) (fun z hz => ((below_regrown ((wc.alloc (.cells #[.int .i64 (7 + (b : Int)), .string ⟨#[]⟩, .int .u64 0, .int .u64 0, .int .u64 0, .int .u64 0, .slice (some ⟨wc.heap.size + 1, 0, none⟩) 1 1, .int .i64 0] 36)).alloc (.cells #[.int .i64 5, .string ⟨#[98]⟩, .int .u64 0, .int .u64 0, .int .u64 0, .int .u64 0, .slice none 0 0, .int .i64 0] 36)) d os).block z (by rw [zW]; have := HPP.out z hz; omega)).trans (hBW.block z (HPP.out z hz))) (fun _ h => h)) (hrep.mono (w' := grow (redrawn ((wc.alloc (.cells #[.int .i64 (7 + (b : Int)), .string ⟨#[]⟩, .int .u64 0, .int .u64 0, .int .u64 0, .int .u64 0, .slice (some ⟨wc.heap.size + 1, 0, none⟩) 1 1, .int .i64 0] 36)).alloc (.cells #[.int .i64 5, .string ⟨#[98]⟩, .int .u64 0, .int .u64 0, .int .u64 0, .int .u64 0, .slice none 0 0, .int .i64 0] 36)) d) os) (fun z hz => (below_regrown ((wc.alloc (.cells #[.int .i64 (7 + (b : Int)), .string ⟨#[]⟩, .int .u64 0, .int .u64 0, .int .u64 0, .int .u64 0, .slice (some ⟨wc.heap.size + 1, 0, none⟩) 1 1, .int .i64 0] 36)).alloc (.cells #[.int .i64 5, .string ⟨#[98]⟩, .int .u64 0, .int .u64 0, .int .u64 0, .int .u64 0, .slice none 0 0, .int .i64 0] 36)) d os).block z (by rw [zW]; exact hz.2)) (fun _ h => h)) (fun z hz => by have h1 := (below_regrown ((wc.alloc (.cells #[.int .i64 (7 + (b : Int)), .string ⟨#[]⟩, .int .u64 0, .int .u64 0, .int .u64 0, .int .u64 0, .slice (some ⟨wc.heap.size + 1, 0, none⟩) 1 1, .int .i64 0] 36)).alloc (.cells #[.int .i64 5, .string ⟨#[98]⟩, .int .u64 0, .int .u64 0, .int .u64 0, .int .u64 0, .slice none 0 0, .int .i64 0] 36)) d os).size; rw [zW] at h1; have := HPP.out z hz; omega) (fun z hz => by have h1 := (below_regrown ((wc.alloc (.cells #[.int .i64 (7 + (b : Int)), .string ⟨#[]⟩, .int .u64 0, .int .u64 0, .int .u64 0, .int .u64 0, .slice (some ⟨wc.heap.size + 1, 0, none⟩) 1 1, .int .i64 0] 36)).alloc (.cells #[.int .i64 5, .string ⟨#[98]⟩, .int .u64 0, .int .u64 0, .int .u64 0, .int .u64 0, .slice none 0 0, .int .i64 0] 36)) d os).size; rw [zW] at h1; have := hz.2; omega))
        dsimp only [ndC] at HSd
        have e0 := (cells_at xN).1 0
        have e1 := (cells_at xN).1 1
        have e2 := (cells_at xN).1 2
        have e3 := (cells_at xN).1 3
        have e4 := (cells_at xN).1 4
        have e5 := (cells_at xN).1 5
        have e6 := (cells_at xN).1 6
        have e7 := (cells_at xN).1 7
        have HBW := Lib.hid hBW
        have HBY := Lib.hid (HBX.out.trans (hBW.mono HBX.out.size))
        have g1 : g < wc.heap.size + 1 := by omega
        have r1 : gr < wc.heap.size + 1 := by omega
        have g2 : g < wc.heap.size + 1 + 1 := by omega
        have r2 : gr < wc.heap.size + 1 + 1 := by omega
        clear hrep hsame hBW xN x0
        clear ha0 hb0
        repeat (first | go_values | go_skip | go_guarded | go_step | go_upon)
        have hG := grown_cell
        have g5_0 : g < wc.heap.size + 1 + 1 := by omega
        have g5_1 : gr < wc.heap.size + 1 + 1 := by omega
        have g5_2 : wc.heap.size < wc.heap.size + 1 + 1 := by omega
        refine wp_region_qb (by kernel_rfl) (by kernel_rfl) ?_
        repeat (quiet_step (first | (with_reducible exact ans_quiet (HSd.out _ _))))
        apply wpQuiet_nil
        intro w5 hb5
        clear hG
        repeat (first | go_values | go_skip | go_guarded | go_step | go_upon)
        go_ret
        exact ⟨rfl, HBY.out.trans (hb5.mono (by have h1 := HBX.out.size; have h2 := HBW.out.size; omega))⟩
      · skip
        have d1 : decide ((b : Int) > 0) = true := by simp; omega
        have d3 : decide ((0 : Int) < b) = true := by simp; omega
        have d3n : decide (0 < b) = true := by simp; omega
        have k1 : IntKind.i64.wrap (8 + (b : Int)) = 8 + (b : Int) := by rw [IntKind.wrap_i64]; omega
        have k2 : IntKind.i64.wrap (8 + (b : Int) - 1) = (7 + (b : Int)) := by rw [IntKind.wrap_i64]; omega
        have d2 : decide ((a : Int) > 0) = true := by simp; omega
        have d4 : decide ((0 : Int) < a) = true := by simp; omega
        have d4n : decide (0 < a) = true := by simp; omega
        have k4 : IntKind.i64.wrap (11 + (a : Int)) = 11 + (a : Int) := by rw [IntKind.wrap_i64]; omega
        have k5 : IntKind.i64.wrap (11 + (a : Int) - 1) = (10 + (a : Int)) := by rw [IntKind.wrap_i64]; omega
        have hBW : Below wc.heap.size wc (((wc.alloc (.cells #[.int .i64 (10 + (a : Int)), .string ⟨#[]⟩, .int .u64 0, .int .u64 0, .int .u64 0, .int .u64 0, .slice (some ⟨wc.heap.size + 1 + 1, 0, none⟩) 1 1, .int .i64 0] 36)).alloc (.cells #[.int .i64 5, .string ⟨#[98]⟩, .int .u64 0, .int .u64 0, .int .u64 0, .int .u64 0, .slice none 0 0, .int .i64 0] 36)).alloc (.cells #[.int .i64 (7 + (b : Int)), .string ⟨#[]⟩, .int .u64 0, .int .u64 0, .int .u64 0, .int .u64 0, .slice (some ⟨wc.heap.size + 1, 0, none⟩) 1 1, .int .i64 0] 36)) := bal (bal (bal (Below.refl _ wc) _) _) _
        have zW : (((wc.alloc (.cells #[.int .i64 (10 + (a : Int)), .string ⟨#[]⟩, .int .u64 0, .int .u64 0, .int .u64 0, .int .u64 0, .slice (some ⟨wc.heap.size + 1 + 1, 0, none⟩) 1 1, .int .i64 0] 36)).alloc (.cells #[.int .i64 5, .string ⟨#[98]⟩, .int .u64 0, .int .u64 0, .int .u64 0, .int .u64 0, .slice none 0 0, .int .i64 0] 36)).alloc (.cells #[.int .i64 (7 + (b : Int)), .string ⟨#[]⟩, .int .u64 0, .int .u64 0, .int .u64 0, .int .u64 0, .slice (some ⟨wc.heap.size + 1, 0, none⟩) 1 1, .int .i64 0] 36)).heap.size = wc.heap.size + 1 + 1 + 1 := by simp
        have xN : (((wc.alloc (.cells #[.int .i64 (10 + (a : Int)), .string ⟨#[]⟩, .int .u64 0, .int .u64 0, .int .u64 0, .int .u64 0, .slice (some ⟨wc.heap.size + 1 + 1, 0, none⟩) 1 1, .int .i64 0] 36)).alloc (.cells #[.int .i64 5, .string ⟨#[98]⟩, .int .u64 0, .int .u64 0, .int .u64 0, .int .u64 0, .slice none 0 0, .int .i64 0] 36)).alloc (.cells #[.int .i64 (7 + (b : Int)), .string ⟨#[]⟩, .int .u64 0, .int .u64 0, .int .u64 0, .int .u64 0, .slice (some ⟨wc.heap.size + 1, 0, none⟩) 1 1, .int .i64 0] 36)).heap[wc.heap.size]? = some (.cells #[.int .i64 (10 + (a : Int)), .string ⟨#[]⟩, .int .u64 0, .int .u64 0, .int .u64 0, .int .u64 0, .slice (some ⟨wc.heap.size + 1 + 1, 0, none⟩) 1 1, .int .i64 0] 36 (0, 0)) := (RowKit.Below.heap_alloc _ _ _ (by simp <;> omega)).trans ((RowKit.Below.heap_alloc _ _ _ (by simp <;> omega)).trans (heap_alloc_new wc _))
        have x0 : (((wc.alloc (.cells #[.int .i64 (10 + (a : Int)), .string ⟨#[]⟩, .int .u64 0, .int .u64 0, .int .u64 0, .int .u64 0, .slice (some ⟨wc.heap.size + 1 + 1, 0, none⟩) 1 1, .int .i64 0] 36)).alloc (.cells #[.int .i64 5, .string ⟨#[98]⟩, .int .u64 0, .int .u64 0, .int .u64 0, .int .u64 0, .slice none 0 0, .int .i64 0] 36)).alloc (.cells #[.int .i64 (7 + (b : Int)), .string ⟨#[]⟩, .int .u64 0, .int .u64 0, .int .u64 0, .int .u64 0, .slice (some ⟨wc.heap.size + 1, 0, none⟩) 1 1, .int .i64 0] 36)).heap[wc.heap.size + 1]? = some (.cells #[.int .i64 5, .string ⟨#[98]⟩, .int .u64 0, .int .u64 0, .int .u64 0, .int .u64 0, .slice none 0 0, .int .i64 0] 36 (0, 0)) := (RowKit.Below.heap_alloc _ _ _ (by simp <;> omega)).trans (by have h := heap_alloc_new (wc.alloc (.cells #[.int .i64 (10 + (a : Int)), .string ⟨#[]⟩, .int .u64 0, .int .u64 0, .int .u64 0, .int .u64 0, .slice (some ⟨wc.heap.size + 1 + 1, 0, none⟩) 1 1, .int .i64 0] 36)) (.cells #[.int .i64 5, .string ⟨#[98]⟩, .int .u64 0, .int .u64 0, .int .u64 0, .int .u64 0, .slice none 0 0, .int .i64 0] 36); simpa using h)
        have x1 : (((wc.alloc (.cells #[.int .i64 (10 + (a : Int)), .string ⟨#[]⟩, .int .u64 0, .int .u64 0, .int .u64 0, .int .u64 0, .slice (some ⟨wc.heap.size + 1 + 1, 0, none⟩) 1 1, .int .i64 0] 36)).alloc (.cells #[.int .i64 5, .string ⟨#[98]⟩, .int .u64 0, .int .u64 0, .int .u64 0, .int .u64 0, .slice none 0 0, .int .i64 0] 36)).alloc (.cells #[.int .i64 (7 + (b : Int)), .string ⟨#[]⟩, .int .u64 0, .int .u64 0, .int .u64 0, .int .u64 0, .slice (some ⟨wc.heap.size + 1, 0, none⟩) 1 1, .int .i64 0] 36)).heap[wc.heap.size + 1 + 1]? = some (.cells #[.int .i64 (7 + (b : Int)), .string ⟨#[]⟩, .int .u64 0, .int .u64 0, .int .u64 0, .int .u64 0, .slice (some ⟨wc.heap.size + 1, 0, none⟩) 1 1, .int .i64 0] 36 (0, 0)) := by have h := heap_alloc_new ((wc.alloc (.cells #[.int .i64 (10 + (a : Int)), .string ⟨#[]⟩, .int .u64 0, .int .u64 0, .int .u64 0, .int .u64 0, .slice (some ⟨wc.heap.size + 1 + 1, 0, none⟩) 1 1, .int .i64 0] 36)).alloc (.cells #[.int .i64 5, .string ⟨#[98]⟩, .int .u64 0, .int .u64 0, .int .u64 0, .int .u64 0, .slice none 0 0, .int .i64 0] 36)) (.cells #[.int .i64 (7 + (b : Int)), .string ⟨#[]⟩, .int .u64 0, .int .u64 0, .int .u64 0, .int .u64 0, .slice (some ⟨wc.heap.size + 1, 0, none⟩) 1 1, .int .i64 0] 36); simpa using h
        have hrep : RepA (((wc.alloc (.cells #[.int .i64 (10 + (a : Int)), .string ⟨#[]⟩, .int .u64 0, .int .u64 0, .int .u64 0, .int .u64 0, .slice (some ⟨wc.heap.size + 1 + 1, 0, none⟩) 1 1, .int .i64 0] 36)).alloc (.cells #[.int .i64 5, .string ⟨#[98]⟩, .int .u64 0, .int .u64 0, .int .u64 0, .int .u64 0, .slice none 0 0, .int .i64 0] 36)).alloc (.cells #[.int .i64 (7 + (b : Int)), .string ⟨#[]⟩, .int .u64 0, .int .u64 0, .int .u64 0, .int .u64 0, .slice (some ⟨wc.heap.size + 1, 0, none⟩) 1 1, .int .i64 0] 36)) (fun x => wc.heap.size ≤ x ∧ x < wc.heap.size + 1 + 1 + 1) (.mk (10 + (a : Int)) [] 0 [.mk (7 + (b : Int)) [] 0 [.mk 5 [98] 0 [] 0] 0] 0) [.int .i64 (10 + (a : Int)), .string ⟨#[]⟩, .int .u64 0, .int .u64 0, .int .u64 0, .int .u64 0, .slice (some ⟨wc.heap.size + 1 + 1, 0, none⟩) 1 1, .int .i64 0] := sig_node (g := wc.heap.size + 1 + 1) (show wc.heap.size ≤ wc.heap.size + 1 + 1 ∧ wc.heap.size + 1 + 1 < wc.heap.size + 1 + 1 + 1 by omega) x1 (by rfl) (sig_node (g := wc.heap.size + 1) (show wc.heap.size ≤ wc.heap.size + 1 ∧ wc.heap.size + 1 < wc.heap.size + 1 + 1 + 1 by omega) x0 (by rfl) (sig_leaf _ _))
        have hsame : SameT false (sigN a b p q).tr (.mk (10 + (a : Int)) [] 0 [.mk (7 + (b : Int)) [] 0 [.mk 5 [98] 0 [] 0] 0] 0) := by
          simp only [sigN, sigM, if_neg ha0, if_neg hb0, Nd.tr, Nd.trs, show ((7 + b : Nat) : Int) = 7 + (b : Int) by omega, show ((10 + a : Nat) : Int) = 10 + (a : Int) by omega]
          exact .mk (fun e => by cases e) (.cons (.mk (fun e => by cases e) (.cons (.mk (fun e => by cases e) .nil) .nil)) .nil)
        have HSd := Lib.hid (fun (d : Nat) (os : Array Obj) => sameT_any false (sigN a b p q).tr (.mk (10 + (a : Int)) [] 0 [.mk (7 + (b : Int)) [] 0 [.mk 5 [98] 0 [] 0] 0] 0) (grow (redrawn (((wc.alloc (.cells #[.int .i64 (10 + (a : Int)), .string ⟨#[]⟩, .int .u64 0, .int .u64 0, .int .u64 0, .int .u64 0, .slice (some ⟨wc.heap.size + 1 + 1, 0, none⟩) 1 1, .int .i64 0] 36)).alloc (.cells #[.int .i64 5, .string ⟨#[98]⟩, .int .u64 0, .int .u64 0, .int .u64 0, .int .u64 0, .slice none 0 0, .int .i64 0] 36)).alloc (.cells #[.int .i64 (7 + (b : Int)), .string ⟨#[]⟩, .int .u64 0, .int .u64 0, .int .u64 0, .int .u64 0, .slice (some ⟨wc.heap.size + 1, 0, none⟩) 1 1, .int .i64 0] 36)) d) os) P (fun x => wc.heap.size ≤ x ∧ x < wc.heap.size + 1 + 1 + 1) _ _ hsame (HQ.out.anyT.mono (w' := grow (redrawn (((wc.alloc (.cells #[.int .i64 (10 + (a : Int)), .string ⟨#[]⟩, .int .u64 0, .int .u64 0, .int .u64 0, .int .u64 0, .slice (some ⟨wc.heap.size + 1 + 1, 0, none⟩) 1 1, .int .i64 0] 36)).alloc (.cells #[.int .i64 5, .string ⟨#[98]⟩, .int .u64 0, .int .u64 0, .int .u64 0, .int .u64 0, .slice none 0 0, .int .i64 0] 36)).alloc (.cells #[.int .i64 (7 + (b : Int)), .string ⟨#[]⟩, .int .u64 0, .int .u64 0, .int .u64 0, .int .u64 0, .slice (some ⟨wc.heap.size + 1, 0, none⟩) 1 1, .int .i64 0] 36)) d) os) (fun z hz => ((below_regrown (((wc.alloc (.cells #[.int .i64 (10 + (a : Int)), .string ⟨#[]⟩, .int .u64 0, .int .u64 0, .int .u64 0, .int .u64 0, .slice (some ⟨wc.heap.size + 1 + 1, 0, none⟩) 1 1, .int .i64 0] 36)).alloc (.cells #[.int .i64 5, .string ⟨#[98]⟩, .int .u64 0, .int .u64 0, .int .u64 0, .int .u64 0, .slice none 0 0, .int .i64 0] 36)).alloc (.cells #[.int .i64 (7 + (b : Int)), .string ⟨#[]⟩, .int .u64 0, .int .u64 0, .int .u64 0, .int .u64 0, .slice (some ⟨wc.heap.size + 1, 0, none⟩) 1 1, .int .i64 0] 36)) d os).block z (by rw [zW]; have := HPP.out z hz; omega)).trans (hBW.block z (HPP.out z hz))) (fun _ h => h)) (hrep.mono (w' := grow (redrawn (((wc.alloc (.cells #[.int .i64 (10 + (a : Int)), .string ⟨#[]⟩, .int .u64 0, .int .u64 0, .int .u64 0, .int .u64 0, .slice (some ⟨wc.heap.size + 1 + 1, 0, none⟩) 1 1, .int .i64 0] 36)).alloc (.cells #[.int .i64 5, .string ⟨#[98]⟩, .int .u64 0, .int .u64 0, .int .u64 0, .int .u64 0, .slice none 0 0, .int .i64 0] 36)).alloc (.cells #[.int .i64 (7 + (b : Int)), .string ⟨#[]⟩, .int .u64 0, .int .u64 0, .int .u64 0, .int .u64 0, .slice (some ⟨wc.heap.size + 1, 0, none⟩) 1 1, .int .i64 0] 36)) d) os) (fun z hz => (below_regrown (((wc.alloc (.cells #[.int .i64 (10 + (a : Int)), .string ⟨#[]⟩, .int .u64 0, .int .u64 0, .int .u64 0, .int .u64 0, .slice (some ⟨wc.heap.size + 1 + 1, 0, none⟩) 1 1, .int .i64 0] 36)).alloc (.cells #[.int .i64 5, .string ⟨#[98]⟩, .int .u64 0, .int .u64 0, .int .u64 0, .int .u64 0, .slice none 0 0, .int .i64 0] 36)).alloc (.cells #[.int .i64 (7 + (b : Int)), .string ⟨#[]⟩, .int .u64 0, .int .u64 0, .int .u64 0, .int .u64 0, .slice (some ⟨wc.heap.size + 1, 0, none⟩) 1 1, .int .i64 0] 36)) d os).block z (by rw [zW]; exact hz.2)) (fun _ h => h)) (fun z hz => by have h1 := (below_regrown (((wc.alloc (.cells #[.int .i64 (10 + (a : Int)), .string ⟨#[]⟩, .int .u64 0, .int .u64 0, .int .u64 0, .int .u64 0, .slice (some ⟨wc.heap.size + 1 + 1, 0, none⟩) 1 1, .int .i64 0] 36)).alloc (.cells #[.int .i64 5, .string ⟨#[98]⟩, .int .u64 0, .int .u64 0, .int .u64 0, .int .u64 0, .slice none 0 0, .int .i64 0] 36)).alloc (.cells #[.int .i64 (7 + (b : Int)), .string ⟨#[]⟩, .int .u64 0, .int .u64 0, .int .u64 0, .int .u64 0, .slice (some ⟨wc.heap.size + 1, 0, none⟩) 1 1, .int .i64 0] 36)) d os).size; rw [zW] at h1; have := HPP.out z hz; omega) (fun z hz => by have h1 := (below_regrown (((wc.alloc (.cells #[.int .i64 (10 + (a : Int)), .string ⟨#[]⟩, .int .u64 0, .int .u64 0, .int .u64 0, .int .u64 0, .slice (some ⟨wc.heap.size + 1 + 1, 0, none⟩) 1 1, .int .i64 0] 36)).alloc (.cells #[.int .i64 5, .string ⟨#[98]⟩, .int .u64 0, .int .u64 0, .int .u64 0, .int .u64 0, .slice none 0 0, .int .i64 0] 36)).alloc (.cells #[.int .i64 (7 + (b : Int)), .string ⟨#[]⟩, .int .u64 0, .int .u64 0, .int .u64 0, .int .u64 0, .slice (some ⟨wc.heap.size + 1, 0, none⟩) 1 1, .int .i64 0] 36)) d os).size; rw [zW] at h1; have := hz.2; omega))
        dsimp only [ndC] at HSd
        have e0 := (cells_at xN).1 0
        have e1 := (cells_at xN).1 1
        have e2 := (cells_at xN).1 2
        have e3 := (cells_at xN).1 3
        have e4 := (cells_at xN).1 4
        have e5 := (cells_at xN).1 5
        have e6 := (cells_at xN).1 6
        have e7 := (cells_at xN).1 7
        have HBW := Lib.hid hBW
        have HBY := Lib.hid (HBX.out.trans (hBW.mono HBX.out.size))
        have g1 : g < wc.heap.size + 1 := by omega
        have r1 : gr < wc.heap.size + 1 := by omega
        have g2 : g < wc.heap.size + 1 + 1 := by omega
        have r2 : gr < wc.heap.size + 1 + 1 := by omega
        have g3 : g < wc.heap.size + 1 + 1 + 1 := by omega
        have r3 : gr < wc.heap.size + 1 + 1 + 1 := by omega
        clear hrep hsame hBW xN x0 x1
        clear ha0 hb0
        repeat (first | go_values | go_skip | go_guarded | go_step | go_upon)
        have hG := grown_cell
        have g5_0 : g < wc.heap.size + 1 + 1 + 1 := by omega
        have g5_1 : gr < wc.heap.size + 1 + 1 + 1 := by omega
        have g5_2 : wc.heap.size < wc.heap.size + 1 + 1 + 1 := by omega
        refine wp_region_qb (by kernel_rfl) (by kernel_rfl) ?_
        repeat (quiet_step (first | (with_reducible exact ans_quiet (HSd.out _ _))))
        apply wpQuiet_nil
        intro w5 hb5
        clear hG
        repeat (first | go_values | go_skip | go_guarded | go_step | go_upon)
        go_ret
        exact ⟨rfl, HBY.out.trans (hb5.mono (by have h1 := HBX.out.size; have h2 := HBW.out.size; omega))⟩
end Go.Proofs.YtcogimlekmnpjaaDoor
