/- printer.Expr of any node. | The printer laws' small case: plain. | What is read is printed, if it is not too long and no part of it is empty; what is printed is read, and printed the same: plain. | empties and nested: is an Empty somewhere within? -/
import Derived.Test.YteohgaheockepaaGreatDoorG36
import Derived.Test.YteohgaheockepaaGreatDoorG38
import Derived.Test.YteohgaheockepaaGreatDoorG24
namespace Go.Proofs.YteohgaheockepaaGreatDoor
open Go.RowKit Go.Sort

/-- What Expr answers, by what Print comes to. -/
def exprOf : Nat ⊕ List UInt8 → List UInt8
  | .inl _ => []
  | .inr s => (s.take (s.length - 1)).drop 5
/-- Where the text of a rule of one name is not empty. -/
theorem one_long (n : Tr) : 7 ≤ (txG [⟨[97], n, 0⟩]).length ∨ (txG [⟨[97], n, 0⟩]).length = 6 + (txT n).length := by
  right
  simp [txG, txU]
  omega
set_option maxRecDepth 100000 in
set_option maxHeartbeats 6400000 in
theorem pexpr_any {n : Tr} {c : List Value} {P : Nat → Prop} (w : World) (hg : Laid w) (hr : RepA w P n c) (hP : ∀ b, P b → b < w.heap.size) (hb : n.bulk ≤ 999999999) : Calls Tryz.prog 14 #[.agg c.toArray] w (fun e w' => (∃ r, PrRes [⟨[97], n, 0⟩] r ∧ e = .returned (.string ⟨(exprOf r).toArray⟩)) ∧ Below w.heap.size w w') := by
  obtain ⟨k, t, x, v, l, p, hn, rfl, hl⟩ := hr.form
  obtain ⟨sa, cap, rfl, _⟩ := hl.slice
  have hm1 := cell_alloc_lt
  have HG := Lib.hid hg
  have hz0 : ∀ j, j < 10 → ((w.alloc (.cells (trC k t x (.slice sa l.length cap) p).toArray 42)).alloc (.cells (Value.string (mkS [97]) :: (trC k t x (.slice sa l.length cap) p ++ [.int .i64 0])).toArray 62)).cell? ⟨w.heap.size + 1, 0 + j, none⟩ = (Value.string (mkS [97]) :: (trC k t x (.slice sa l.length cap) p ++ [.int .i64 0]))[j]? := fun j _ => by
    rw [(cells_at (allocs_new w _ _)).1, Nat.zero_add]
    simp
  have HRG := Lib.hid (RepGr.row (w := (w.alloc (.cells (trC k t x (.slice sa l.length cap) p).toArray 42)).alloc (.cells (Value.string (mkS [97]) :: (trC k t x (.slice sa l.length cap) p ++ [.int .i64 0])).toArray 62)) (P := fun b => b < w.heap.size + 2) (l := [⟨[97], n, 0⟩]) (g := w.heap.size + 1) (o := 0) (cap := 1) (by omega) (by simp) (by simp) (by simp [maxLen]) (.cons hz0 (hr.mono (fun b hb => (RowKit.Below.heap_alloc _ _ _ (by have := hP b hb; simp; omega)).trans (RowKit.Below.heap_alloc _ _ _ (hP b hb))) (fun b hb => by have := hP b hb; omega)) .nil))
  clear hg hl hz0
  dsimp only [trC]
  go_enter Tryz.func14, Tryz.ntmps14
  repeat (first | go_values | go_skip | go_guarded | go_step | go_upon)
  refine (print_any _ (HG.out.below (bal (bal (Below.refl _ w) _) _) HG.out.pos) HRG.out (by intro b hb; simp; omega) (by simp only [Rr.bulks, Rr.bulk, List.length_singleton]; omega)).mono ?_
  rintro e w2 ⟨⟨r, hr2, rfl⟩, hb2⟩
  have HR2 := Lib.hid hr2
  clear hr2
  cases r with
  | inl cc =>
    dsimp only [prVal]
    repeat (first | go_values | go_skip | go_guarded | go_step | go_upon)
    go_ret
    exact ⟨⟨_, HR2.out, rfl⟩, (by repeat (first | exact Below.refl _ _ | assumption | refine bal ?_ _ | refine bdr ?_ | refine bdrn ?_ _ | (refine bset ?_ (by first | exact Nat.le_refl _ | (simp; done) | (simp; omega) | omega) _) | refine bstep ?_ (by assumption)))⟩
  | inr s =>
    have hlen : 6 ≤ s.length ∧ s.length ≤ 8192 := by
      rcases HR2.out with ⟨_, e⟩ | ⟨_, _, e⟩ | ⟨_, h8, ⟨_, _, e⟩ | ⟨_, _, e⟩⟩
      · cases e
      · cases e
      · cases e
      · injection e with e
        subst e
        have hl6 : (txG [⟨[97], n, 0⟩]).length = 6 + (txT n).length := by simp [txG, txU]; omega
        omega
    obtain ⟨m, hm⟩ : ∃ m, s.length = m + 6 := ⟨s.length - 6, by omega⟩
    have hss : (⟨s.toArray⟩ : ByteArray).size = m + 6 := by simp [ByteArray.size, hm]
    have k5 : IntKind.i64.wrap (((m + 6 : Nat) : Int) - 1) = ((m + 5 : Nat) : Int) := by rw [IntKind.wrap_i64]; omega
    dsimp only [prVal]
    repeat (first | go_values | go_skip | go_guarded | go_step | go_upon)
    go_ret
    refine ⟨⟨_, HR2.out, ?_⟩, (by repeat (first | exact Below.refl _ _ | assumption | refine bal ?_ _ | refine bdr ?_ | refine bdrn ?_ _ | (refine bset ?_ (by first | exact Nat.le_refl _ | (simp; done) | (simp; omega) | omega) _) | refine bstep ?_ (by assumption)))⟩
    have he : (⟨s.toArray⟩ : ByteArray).extract 5 (m + 5) = ⟨(exprOf (.inr s)).toArray⟩ := by
      rw [exprOf, hm]
      apply ByteArray.ext
      simp [ByteArray.data_extract, List.extract_toArray, List.drop_take, List.extract]
    rw [← he]
    rfl
end Go.Proofs.YteohgaheockepaaGreatDoor
namespace Go.Proofs.YteohgaheockepaaGreatDoor
open Go.RowKit

/-- a<-(('x'))/b*!(c d), and what is printed of it. -/
def small5L : List UInt8 := [97, 60, 45, 40, 40, 39, 120, 39, 41, 41, 47, 98, 42, 33, 40, 99, 32, 100, 41]
def small5U : List UInt8 := [97, 32, 60, 45, 32, 39, 120, 39, 32, 47, 32, 98, 42, 32, 33, 40, 99, 32, 100, 41, 10]
def small5G : List Ru := [⟨[97], .mk 7 [] 0 [.mk 2 [120] 0 [] 5, .mk 6 [] 0 [.mk 9 [] 0 [.mk 5 [98] 0 [] 11] 11, .mk 12 [] 0 [.mk 6 [] 0 [.mk 5 [99] 0 [] 15, .mk 5 [100] 0 [] 17] 15] 13] 11] 5, 0⟩]
theorem small5_lexed : lexed small5L = .inr [⟨1, [97], 0, 0⟩, ⟨2, [], 0, 1⟩, ⟨5, [40], 0, 3⟩, ⟨5, [40], 0, 4⟩, ⟨3, [120], 0, 5⟩, ⟨5, [41], 0, 8⟩, ⟨5, [41], 0, 9⟩, ⟨5, [47], 0, 10⟩, ⟨1, [98], 0, 11⟩, ⟨5, [42], 0, 12⟩, ⟨5, [33], 0, 13⟩, ⟨5, [40], 0, 14⟩, ⟨1, [99], 0, 15⟩, ⟨1, [100], 0, 17⟩, ⟨5, [41], 0, 18⟩, ⟨6, [], 0, 19⟩] := by
  refine lexed_toks (by decide) ?_
  unfold toks
  rfl
theorem small5_rules : pRules 30 [⟨1, [97], 0, 0⟩, ⟨2, [], 0, 1⟩, ⟨5, [40], 0, 3⟩, ⟨5, [40], 0, 4⟩, ⟨3, [120], 0, 5⟩, ⟨5, [41], 0, 8⟩, ⟨5, [41], 0, 9⟩, ⟨5, [47], 0, 10⟩, ⟨1, [98], 0, 11⟩, ⟨5, [42], 0, 12⟩, ⟨5, [33], 0, 13⟩, ⟨5, [40], 0, 14⟩, ⟨1, [99], 0, 15⟩, ⟨1, [100], 0, 17⟩, ⟨5, [41], 0, 18⟩, ⟨6, [], 0, 19⟩] [] = some (.ok small5G [⟨6, [], 0, 19⟩]) := by
  simp [small5G, pRules, pChoice, pAlts, pParts, pPart, pOne, kindT, posT, sgnOf, preK, sufK, joinN, nameT, Nd.pos]
theorem small5_reads : Reads small5L (.inr small5G) := by
  unfold Reads
  rw [small5_lexed]
  exact ⟨30, .inr ⟨_, _, small5_rules, rfl⟩⟩
theorem small5_ok : okG (small5G.map Ru.rr) = true := by
  simp [small5G, Ru.rr, Nd.tr, Nd.trs, okG, okU, okT, okH, okL]
  decide
theorem small5_tx : txG (small5G.map Ru.rr) = small5U := by
  simp [small5G, Ru.rr, Nd.tr, Nd.trs, txG, txU, txT, pcT, pcR, paren, rankT, Tr.kind, txs, Pc.tx, postB, preB]
  rfl
theorem small5_fit : ∃ hs, Reads small5U (.inr hs) := by
  have hl : lexed small5U = .inr [⟨1, [97], 0, 0⟩, ⟨2, [], 0, 2⟩, ⟨3, [120], 0, 5⟩, ⟨5, [47], 0, 9⟩, ⟨1, [98], 0, 11⟩, ⟨5, [42], 0, 12⟩, ⟨5, [33], 0, 14⟩, ⟨5, [40], 0, 15⟩, ⟨1, [99], 0, 16⟩, ⟨1, [100], 0, 18⟩, ⟨5, [41], 0, 19⟩, ⟨6, [], 0, 21⟩] := by
    refine lexed_toks (by decide) ?_
    unfold toks
    rfl
  refine ⟨[⟨[97], .mk 7 [] 0 [.mk 2 [120] 0 [] 5, .mk 6 [] 0 [.mk 9 [] 0 [.mk 5 [98] 0 [] 11] 11, .mk 12 [] 0 [.mk 6 [] 0 [.mk 5 [99] 0 [] 16, .mk 5 [100] 0 [] 18] 16] 14] 11] 5, 0⟩], ?_⟩
  unfold Reads
  rw [hl]
  refine ⟨30, .inr ⟨_, [⟨6, [], 0, 21⟩], ?_, rfl⟩⟩
  simp [pRules, pChoice, pAlts, pParts, pPart, pOne, kindT, posT, sgnOf, preK, sufK, joinN, nameT, Nd.pos]
/-- What Print comes to, if it comes to a text. -/
theorem res_text {g : List Rr} {s : List UInt8} (h : PrRes g (.inr s)) : s = txG g ∧ okG g = true ∧ (txG g).length ≤ 8192 ∧ ∃ hs, Reads (txG g) (.inr hs) := by
  rcases h with ⟨_, e⟩ | ⟨_, _, e⟩ | ⟨h1, h2, ⟨_, _, e⟩ | ⟨hs, h3, e⟩⟩
  · cases e
  · cases e
  · cases e
  · injection e with e
    exact ⟨e, h1, h2, hs, h3⟩
/-- Where the text is read. -/
theorem res_is {g : List Rr} {x : Nat ⊕ List UInt8} (h : PrRes g x) (h1 : okG g = true) (h2 : (txG g).length ≤ 8192) {hs : List Ru} (h3 : Reads (txG g) (.inr hs)) : x = .inr (txG g) := by
  rcases h with ⟨e, _⟩ | ⟨_, e, _⟩ | ⟨_, _, ⟨_, e, _⟩ | ⟨_, _, e⟩⟩
  · rw [h1] at e; cases e
  · omega
  · cases e.det h3
  · exact e
theorem small5_res {x : Nat ⊕ List UInt8} (h : PrRes (small5G.map Ru.rr) x) : x = .inr small5U := by
  obtain ⟨hs, h3⟩ := small5_fit
  rw [← small5_tx] at h3
  have := res_is h small5_ok (by rw [small5_tx]; decide) h3
  rwa [small5_tx] at this
theorem okG_all {g : List Rr} (h : okG g = true) : (∀ r ∈ g, OkR r) ∧ 0 < g.length ∧ g.length ≤ 64 := by
  rw [okG, Bool.and_eq_true, Bool.and_eq_true] at h
  obtain ⟨⟨h1, h2⟩, h3⟩ := h
  exact ⟨fun r hr => okU_ok (List.all_eq_true.1 h3 r hr), of_decide_eq_true h1, of_decide_eq_true h2⟩
theorem ok_okG {r : Rr} (h : OkR r) : okG [r] = true := by
  simp [okG, ok_okU h]
/-- A printed grammar's text is read as it. -/
theorem res_reads {g : List Rr} {s : List UInt8} (h : PrRes g (.inr s)) : s = txG g ∧ (txG g).length ≤ 8192 ∧ ∃ hs, Reads (txG g) (.inr hs) ∧ SameR false g (hs.map Ru.rr) := by
  obtain ⟨e, h1, h2, hs, h3⟩ := res_text h
  obtain ⟨g1, g2, g3⟩ := okG_all h1
  refine ⟨e, h2, hs, h3, ?_⟩
  rw [← txs_gram] at h2 h3
  rcases gram_reads g1 g2 g3 h2 with ⟨hs2, q1, q2⟩ | ⟨x, q⟩
  · have := h3.det q1
    injection this with this
    rw [this]
    exact q2
  · cases h3.det q
theorem res_fit {g : List Rr} {s : List UInt8} (h : PrRes g (.inr s)) : ∀ r ∈ g, OkR r ∧ Fit r.body := by
  obtain ⟨_, h1, h2, hs, h3⟩ := res_text h
  obtain ⟨g1, _, _⟩ := okG_all h1
  exact fun r hr => ⟨g1 r hr, gram_fit g1 h2 h3 r hr⟩
/-- One rule. -/
theorem res_one {r : Rr} (h : OkR r) (hf : Fit r.body) (h8 : (txU r).length ≤ 8192) {x : Nat ⊕ List UInt8} (hx : PrRes [r] x) : x = .inr (txU r) := by
  have e : txG [r] = txU r := by simp [txG]
  obtain ⟨m, p, h1, _⟩ := fit_reads h.2 hf h.1 [.nl] ⟨trivial, fun u e => (by cases e), trivial⟩ rfl (fun b r e => by injection e with e1 e2; subst e1; rfl) h8
  have := res_is hx (ok_okG h) (by rw [e]; exact h8) (hs := [⟨r.name, m, p⟩]) (by rw [e]; exact h1)
  rwa [e] at this
/-- An expression's text. -/
theorem expr_is {n : Tr} (h : OkT n) (hf : Fit n) (h8 : (txT n).length + 6 ≤ 8192) {x : Nat ⊕ List UInt8} (hx : PrRes [⟨[97], n, 0⟩] x) : exprOf x = txT n := by
  have := res_one (r := ⟨[97], n, 0⟩) ⟨rfl, h⟩ hf (by simp [txU]; omega) hx
  subst this
  simp [exprOf, txU]
theorem expr_nil {n : Tr} {x : Nat ⊕ List UInt8} (hx : PrRes [⟨[97], n, 0⟩] x) : exprOf x = [] ∨ (exprOf x = txT n ∧ OkT n ∧ Fit n ∧ (txT n).length + 6 ≤ 8192) := by
  cases x with
  | inl c => exact .inl rfl
  | inr s =>
    obtain ⟨e, _, h2, _⟩ := res_text hx
    obtain ⟨h1, h3⟩ := res_fit hx _ List.mem_cons_self
    have hl : (txT n).length + 6 ≤ 8192 := by simp [txG, txU] at h2; omega
    exact .inr ⟨expr_is h1.2 h3 hl hx, h1.2, h3, hl⟩
/-- The expression's text behind a name and an arrow. -/
theorem expr_reads {n : Tr} (h : OkT n) (hf : Fit n) (h8 : (txT n).length + 6 ≤ 8192) : ∃ m x, Reads ([114, 32, 60, 45, 32] ++ txT n) (.inr [⟨[114], m, x⟩]) ∧ SameT false n m.tr := by
  have := fit_reads h hf (nm := [114]) rfl [] trivial rfl (fun b r e => by cases e) (by simp [txs]; omega)
  simpa [txs] using this
theorem txG_mem {g : List Rr} {r : Rr} (h : r ∈ g) : (txU r).length ≤ (txG g).length := by
  induction g with
  | nil => cases h
  | cons x l ih =>
    rw [txG, List.length_append]
    rcases List.mem_cons.1 h with rfl | h
    · omega
    · have := ih h; omega
end Go.Proofs.YteohgaheockepaaGreatDoor
namespace Go.Proofs.YteohgaheockepaaGreatDoor
open Go.RowKit

theorem drules_list {e : Tok} (he : e.kind = 6) : ∀ (g : List Rr), (∀ r ∈ g, OkR r ∧ dpT r.body ≤ 24) → ∀ ts, ts.map core = cos (pcG g) → ∀ acc : List Ru, 0 < acc.length + g.length → acc.length + g.length ≤ 64 →
    ∃ f hs, pRules f (ts ++ [e]) acc = some (.ok hs [e]) := by
  intro g
  induction g with
  | nil =>
    intro _ ts ht acc h0 _
    obtain rfl : ts = [] := List.map_eq_nil_iff.1 ht
    simp only [List.length_nil, Nat.add_zero] at h0
    exact ⟨1, acc, by rw [List.nil_append, pRules, if_pos ⟨by omega, he⟩]⟩
  | cons r g ih =>
    intro hr ts ht acc _ h64
    obtain ⟨hok, hdp⟩ := hr r List.mem_cons_self
    have ht2 : ts.map core = (1, r.name, 0) :: (2, [], 0) :: (cos (pcT r.body) ++ cos (pcG g)) := by
      rw [ht]
      show cos (.nm r.name :: .sp :: .ar :: .sp :: ((pcT r.body ++ [.nl]) ++ pcG g)) = _
      rw [List.append_assoc]
      show (1, r.name, 0) :: (2, [], 0) :: cos (pcT r.body ++ (.nl :: pcG g)) = _
      rw [cos_app]
      rfl
    obtain ⟨a, t0, rfl, a1, a2, _, ht3⟩ := core_cons ht2
    obtain ⟨b, t3, rfl, b1, _, _, ht4⟩ := core_cons ht3
    obtain ⟨t1, t2, rfl, h1, h2⟩ := core_app ht4
    dsimp only at a1 a2 b1
    have hg := fun m hm => hr m (List.mem_cons_of_mem _ hm)
    obtain ⟨⟨g1, g2⟩, _⟩ := rules_list he g (fun m hm => (hg m hm).1) t2 h2
    simp only [List.length_cons] at h64
    have ek : kindT (a :: b :: (t1 ++ t2) ++ [e]) = 1 := a1
    have ek2 : kindT (a :: b :: (t1 ++ t2) ++ [e]).tail = 2 := b1
    have et : (a :: b :: (t1 ++ t2) ++ [e]).tail.tail = t1 ++ (t2 ++ [e]) := by simp
    obtain ⟨f, m, q1, _⟩ := (dmain_tree hok.2).cho 0 t1 (t2 ++ [e]) (by omega) h1 g1 g2
    obtain ⟨f2, hs, q3⟩ := ih hg t2 h2 (acc ++ [⟨r.name, m, a.pos⟩]) (by simp; omega) (by simp; omega)
    refine ⟨f + f2 + 1, hs, ?_⟩
    rw [pRules, if_neg (by rw [ek]; omega), if_neg (by omega), if_neg (fun h => h ek), if_neg (fun h => h ek2), et, pChoice_mono q1 (by omega)]
    show pRules (f + f2) (t2 ++ [e]) (acc ++ [⟨a.text, m, a.pos⟩]) = _
    rw [a2, pRules_mono q3 (by omega)]
/-- Where the text is not too deep, it is read. -/
theorem gram_deep {g : List Rr} (h : okG g = true) (hd : ∀ r ∈ g, dpT r.body ≤ 24) (h8 : (txG g).length ≤ 8192) : ∃ hs, Reads (txG g) (.inr hs) := by
  obtain ⟨k1, k2, k3⟩ := okG_all h
  rw [← txs_gram] at h8 ⊢
  obtain ⟨r, h1, h2⟩ := good_lexed (good_gram g k1) h8
  obtain ⟨f, hs, q⟩ := drules_list (e := ⟨6, [], 0, (txs (pcG g)).length⟩) rfl g (fun r hr => ⟨k1 r hr, hd r hr⟩) r h2 [] (by simpa using k2) (by simpa using k3)
  refine ⟨hs, ?_⟩
  unfold Reads
  rw [h1]
  exact ⟨f, .inr ⟨_, _, q, rfl⟩⟩
theorem SameT.kind {b : Bool} {n m : Tr} (h : SameT b n m) : n.kind = m.kind := by cases h; rfl
mutual
theorem SameT.pc {b : Bool} {n m : Tr} : SameT b n m → pcT n = pcT m
  | .mk _ h => by
    have k := SameU.pc h
    rw [pcT, pcT, k, k, k, k]
theorem SameU.pc {b : Bool} {l m : List Tr} : SameU b l m → ∀ (sep : List Pc) (r : Nat) (first : Bool), pcR sep r first l = pcR sep r first m
  | .nil, _, _, _ => rfl
  | .cons h1 h2, sep, r, first => by
    have k := SameU.pc h2
    have k1 := SameT.pc h1
    rw [pcR_cons, pcR_cons, k, pcQ, pcQ, k1, h1.kind]
end
theorem SameR.tx {b : Bool} {l m : List Rr} (h : SameR b l m) : txG l = txG m := by
  induction h with
  | nil => rfl
  | cons h1 _ _ ih =>
    rw [txG, txG, ih]
    simp only [txU, txT, h1.pc]
theorem rules_len : ∀ (f : Nat) {ts r : List Tok} {acc g : List Ru}, acc.length ≤ 64 → pRules f ts acc = some (.ok g r) → 0 < g.length ∧ g.length ≤ 64 := by
  intro f
  induction f with
  | zero => intro ts r acc g _ h; cases h
  | succ f ih =>
    intro ts r acc g ha h
    rw [pRules] at h
    split at h
    · next h0 =>
      have e2 := Option.some.inj h
      injection e2 with e3 _
      subst e3
      exact ⟨by omega, ha⟩
    split at h
    · cases h
    next h64 =>
    split at h
    · cases h
    next k1 =>
    split at h
    · cases h
    cases e1 : pChoice f 0 ts.tail.tail with
    | none => rw [e1] at h; cases h
    | some y =>
      rw [e1] at h
      cases y with
      | err c x => cases h
      | ok n r1 =>
        refine ih ?_ h
        rw [List.length_append, List.length_singleton]
        omega
theorem reads_ok {s : List UInt8} {g : List Ru} (h : Reads s (.inr g)) : okG (g.map Ru.rr) = true := by
  have h1 := reads_deep h
  have h2 : 0 < g.length ∧ g.length ≤ 64 := by
    unfold Reads at h
    cases e1 : lexed s with
    | inl er => rw [e1] at h; cases h
    | inr l =>
      rw [e1] at h
      obtain ⟨f, h⟩ := h
      rcases h with ⟨_, _, _, e⟩ | ⟨g', r, q, e⟩
      · cases e
      · injection e with e
        subst e
        exact rules_len f (by simp) q
  rw [okG, Bool.and_eq_true, Bool.and_eq_true]
  refine ⟨⟨?_, ?_⟩, ?_⟩
  · rw [List.length_map]; exact decide_eq_true h2.1
  · rw [List.length_map]; exact decide_eq_true h2.2
  · rw [List.all_eq_true]
    intro r hr
    obtain ⟨u, hu, rfl⟩ := List.mem_map.1 hr
    exact ok_okU (h1 u hu).1
def nestE (g : List Rr) : Bool := g.any fun r => hasE r.body
/-- What Print comes to, of what was read. -/
theorem form_res {s : List UInt8} {g : List Ru} (h : Reads s (.inr g)) {x : Nat ⊕ List UInt8} (hx : PrRes (g.map Ru.rr) x) : x = .inl 2 ∨ (x = .inl 20 ∧ nestE (g.map Ru.rr) = true) ∨ (x = .inr (txG (g.map Ru.rr)) ∧ (txG (g.map Ru.rr)).length ≤ 8192 ∧ ∃ hs, Reads (txG (g.map Ru.rr)) (.inr hs) ∧ SameR false (g.map Ru.rr) (hs.map Ru.rr)) := by
  have hok := reads_ok h
  have hx2 := hx
  rcases hx with ⟨e, _⟩ | ⟨_, _, e⟩ | ⟨_, h8, ⟨er, h3, e⟩ | ⟨hs, h3, e⟩⟩
  · rw [hok] at e; cases e
  · exact .inl e
  · refine .inr (.inl ⟨e, ?_⟩)
    cases hn : nestE (g.map Ru.rr) with
    | true => rfl
    | false =>
      have hd : ∀ r ∈ g.map Ru.rr, dpT r.body ≤ 24 := by
        intro r hr
        have hne : hasE r.body = false := by
          have := List.any_eq_false.1 hn r hr
          simpa using this
        obtain ⟨u, hu, rfl⟩ := List.mem_map.1 hr
        exact (reads_deep h u hu).2 hne
      obtain ⟨hs, h4⟩ := gram_deep hok hd h8
      cases h3.det h4
  · subst e
    obtain ⟨_, h8, q⟩ := res_reads hx2
    exact .inr (.inr ⟨rfl, h8, q⟩)
/-- What Print comes to, of what was printed and read. -/
theorem form_again {g : List Rr} {hs : List Ru} (h8 : (txG g).length ≤ 8192) (h : Reads (txG g) (.inr hs)) (hsame : SameR false g (hs.map Ru.rr)) {x : Nat ⊕ List UInt8} (hx : PrRes (hs.map Ru.rr) x) : x = .inr (txG g) := by
  rw [hsame.tx] at h h8 ⊢
  exact res_is hx (reads_ok h) h8 h
end Go.Proofs.YteohgaheockepaaGreatDoor
namespace Go.Proofs.YteohgaheockepaaGreatDoor
open Go.RowKit Go.Sort

/-- The contract of empties. -/
def EmpC (n : Tr) : Prop := ∀ (q : Bool) (w : World) (P : Nat → Prop) (c : List Value), hasE n = q → RepA w P n c → (∀ b, P b → b < w.heap.size) → Calls Tryz.prog 30 #[.agg c.toArray] w (Ans (.bool q) w)
theorem hasL_at {l : List Tr} {j : Nat} {y : Tr} (hy : l[j]? = some y) (h : hasE y = true) : hasL l = true := by
  induction l generalizing j with
  | nil => simp at hy
  | cons n l ih =>
    rw [hasL]
    cases j with
    | zero => simp at hy; subst hy; rw [h]; rfl
    | succ j => rw [ih (by simpa using hy), Bool.or_true]
theorem hasL_app (l m : List Tr) : hasL (l ++ m) = (hasL l || hasL m) := by
  induction l with
  | nil => rfl
  | cons n l ih => rw [List.cons_append, hasL, hasL, ih, Bool.or_assoc]
theorem hasL_more {l : List Tr} {j : Nat} {y : Tr} (hy : l[j]? = some y) (h : hasL (l.take j) = false) (h2 : hasE y = false) : hasL (l.take (j + 1)) = false := by
  have e : l.take (j + 1) = l.take j ++ [y] := by rw [List.take_add_one, hy]; rfl
  rw [e, hasL_app, h, hasL, h2, hasL]; rfl
set_option maxRecDepth 100000 in
set_option maxHeartbeats 3200000 in
theorem emp_kind {p : Int} {t : List UInt8} {x : BitVec 256} {a : Option Addr} {n cap : Nat} (w : World) : Calls Tryz.prog 30 #[.agg (trC 1 t x (.slice a n cap) p).toArray] w (Ans (.bool true) w) := by
  dsimp only [trC]
  go_enter Tryz.func30, Tryz.ntmps30
  repeat (first | go_values | go_skip | go_guarded | go_step | go_upon)
  go_ret
  exact ⟨rfl, (by repeat (first | exact Below.refl _ _ | assumption | refine bal ?_ _ | refine bdr ?_ | refine bdrn ?_ _ | (refine bset ?_ (by first | exact Nat.le_refl _ | (simp; done) | (simp; omega) | omega) _) | refine bstep ?_ (by assumption)))⟩
set_option maxRecDepth 100000 in
set_option maxHeartbeats 3200000 in
theorem emp_leaf {k p : Int} {t : List UInt8} {x : BitVec 256} {a : Option Addr} {cap : Nat} (w : World) (hk : (k == 1) = false) : Calls Tryz.prog 30 #[.agg (trC k t x (.slice a 0 cap) p).toArray] w (Ans (.bool false) w) := by
  dsimp only [trC]
  go_enter Tryz.func30, Tryz.ntmps30
  repeat (first | go_values | go_skip | go_guarded | go_step | go_upon)
  refine wp_loop_rounds 1 ?_
  rw [rounds_succ]
  repeat (first | go_values | go_skip | go_guarded | go_step | go_upon)
  go_ret
  exact ⟨rfl, (by repeat (first | exact Below.refl _ _ | assumption | refine bal ?_ _ | refine bdr ?_ | refine bdrn ?_ _ | (refine bset ?_ (by first | exact Nat.le_refl _ | (simp; done) | (simp; omega) | omega) _) | refine bstep ?_ (by assumption)))⟩
set_option maxRecDepth 100000 in
set_option maxHeartbeats 6400000 in
theorem emp_row (q : Bool) {k p : Int} {t : List UInt8} {x : BitVec 256} {n g o cap : Nat} {l : List Tr} {P : Nat → Prop} (w : World) (hk : (k == 1) = false) (hq : hasL l = q) (hn : l.length = n) (_ : n ≤ cap) (hmax : n ≤ maxLen) (hg : P g) (r1 : RepC w P g o l) (hP : ∀ b, P b → b < w.heap.size) (IH : ∀ m ∈ l, EmpC m) :
    Calls Tryz.prog 30 #[.agg (trC k t x (.slice (some ⟨g, o, none⟩) n cap) p).toArray] w (Ans (.bool q) w) := by
  have hm1 := cell_alloc_lt
  have HI := Lib.hid IH
  have HN := Lib.hid hn
  have HQ := Lib.hid hq
  have R1 := Lib.hid r1
  have HG := Lib.hid hg
  have HP := Lib.hid hP
  have lg := hP g hg
  unfold maxLen at hmax
  clear hn r1 hg hP IH hq
  dsimp only [trC]
  go_enter Tryz.func30, Tryz.ntmps30
  repeat (first | go_values | go_skip | go_guarded | go_step | go_upon)
  go_loopw [3] (fun tt wr => ∃ j : Nat, tt = .int .i64 (j : Int) ∧ j ≤ n ∧ Hid (hasL (l.take j) = false) ∧ Below (w.alloc (.cells #[.int .i64 k, .string (mkS t), .int .u64 (wd x 0), .int .u64 (wd x 1), .int .u64 (wd x 2), .int .u64 (wd x 3), .slice (some ⟨g, o, none⟩) n cap, .int .i64 p] 42)).heap.size (w.alloc (.cells #[.int .i64 k, .string (mkS t), .int .u64 (wd x 0), .int .u64 (wd x 1), .int .u64 (wd x 2), .int .u64 (wd x 3), .slice (some ⟨g, o, none⟩) n cap, .int .i64 p] 42)) wr) (fun tt _ => n - (intOf tt).toNat)
  case atStart => exact ⟨0, rfl, Nat.zero_le _, Lib.hid rfl, Below.refl _ _⟩
  case round =>
    obtain ⟨j, rfl, hj, HE, hbr⟩ := hrel
    have HB := Lib.hid hbr
    have hA := (hbr.block w.heap.size (by simp)).trans (heap_alloc_new w (.cells #[.int .i64 k, .string (mkS t), .int .u64 (wd x 0), .int .u64 (wd x 1), .int .u64 (wd x 2), .int .u64 (wd x 3), .slice (some ⟨g, o, none⟩) n cap, .int .i64 p] 42))
    have s1 : wr.cell? ⟨w.heap.size, 6, none⟩ = some (.slice (some ⟨g, o, none⟩) n cap) := (cells_at hA).1 6
    have hw : Below w.heap.size w wr := (bal (Below.refl _ w) _).trans (hbr.mono (by simp))
    have HW := Lib.hid hw
    clear hA hbr hw
    by_cases hlt : j < n
    · obtain ⟨y, hy⟩ : ∃ y, l[j]? = some y := ⟨l[j]'(by rw [HN.out]; exact hlt), List.getElem?_eq_getElem (by rw [HN.out]; exact hlt)⟩
      obtain ⟨k1, t1, x1, sa, sn, sc, p1, l1, _, q0, _, a0, a1, a2, a3, a4, a5, a6, a7⟩ := (R1.out.mono (w' := wr) (P' := P) (fun b hb => HW.out.block b (HP.out b hb)) (fun _ h => h) HG.out).get hy
      have hz := HW.out.size
      have HC := Lib.hid (fun (q : Bool) (w' : World) (hq : hasE y = q) (e : w'.heap = wr.heap) => HI.out y (List.mem_of_getElem? hy) q w' P _ hq (q0.mono (w' := w') (fun b _ => by rw [e]) (fun _ h => h)) (fun b hb => by rw [e]; exact Nat.lt_of_lt_of_le (HP.out b hb) hz))
      have HY := Lib.hid hy
      clear hy q0
      have d1 : decide ((j : Int) < n) = true := by simpa using hlt
      repeat (first | go_values | go_skip | go_guarded | go_step | go_upon)
      cases hE : hasE y with
      | true =>
        have hq2 : q = true := by rw [← HQ.out]; exact hasL_at HY.out hE
        subst hq2
        refine (HC.out true wr hE rfl).mono ?_
        rintro e w1 ⟨rfl, hb1⟩
        dsimp only
        repeat (first | go_values | go_skip | go_guarded | go_step | go_upon)
        go_ret
        exact ⟨rfl, HW.out.trans (hb1.mono hz)⟩
      | false =>
        refine (HC.out false wr hE rfl).mono ?_
        rintro e w1 ⟨rfl, hb1⟩
        have HE2 := Lib.hid (hasL_more HY.out HE.out hE)
        clear hE
        dsimp only
        repeat (first | go_values | go_skip | go_guarded | go_step | go_upon)
        exact ⟨⟨j + 1, by go_num, by omega, HE2, HB.out.trans (hb1.mono (by have := HB.out.size; simpa using this))⟩, by simp [intOf]; omega⟩
    · have d1 : decide (j < n) = false := by simpa using hlt
      have hq2 : q = false := by
        have := HE.out
        rw [show j = l.length by rw [HN.out]; omega, List.take_length] at this
        rw [← HQ.out, this]
      subst hq2
      clear hlt
      repeat (first | go_values | go_skip | go_guarded | go_step | go_upon)
      go_ret
      exact ⟨rfl, HW.out⟩
theorem emp_node : ∀ (k : Nat) (n : Tr), SizeOf.sizeOf n ≤ k → EmpC n := by
  intro k
  induction k with
  | zero => intro n hn; cases n; simp at hn
  | succ k ih =>
    intro n hn q w P c hq h1 hP
    cases h1 with
    | @mk kk t x l p v r1 =>
      rw [hasE] at hq
      cases hk : (kk == 1) with
      | true =>
        rw [hk, Bool.true_or] at hq
        obtain rfl := eq_of_beq hk
        subst hq
        obtain ⟨a, cap, rfl, _⟩ := r1.slice
        exact emp_kind w
      | false =>
        rw [hk, Bool.false_or] at hq
        rcases r1.parts with ⟨rfl, rfl⟩ | ⟨rfl, a, cap, rfl⟩ | ⟨g, o, cap, rfl, hg, hpos, hcap, hmax, hr⟩
        · subst hq; exact emp_leaf w hk
        · subst hq; exact emp_leaf w hk
        · exact emp_row q w hk hq rfl hcap hmax hg hr hP (fun m hm => ih m (by
            have e1 : SizeOf.sizeOf m < SizeOf.sizeOf l := List.sizeOf_lt_of_mem hm
            rw [Tr.mk.sizeOf_spec] at hn
            omega))
theorem emp_any (n : Tr) : EmpC n := emp_node (SizeOf.sizeOf n) n (Nat.le_refl _)
theorem nest_at {l : List Rr} {j : Nat} {y : Rr} (hy : l[j]? = some y) (h : hasE y.body = true) : nestE l = true := by
  rw [nestE, List.any_eq_true]
  exact ⟨y, List.mem_of_getElem? hy, h⟩
theorem nest_more {l : List Rr} {j : Nat} {y : Rr} (hy : l[j]? = some y) (h : nestE (l.take j) = false) (h2 : hasE y.body = false) : nestE (l.take (j + 1)) = false := by
  have e : l.take (j + 1) = l.take j ++ [y] := by rw [List.take_add_one, hy]; rfl
  rw [nestE] at h ⊢
  rw [e, List.any_append, h]
  simp [h2]
set_option maxRecDepth 100000 in
set_option maxHeartbeats 3200000 in
theorem nest_nil {a : Option Addr} {cap : Nat} (w : World) : Calls Tryz.prog 9 #[.agg #[.slice a 0 cap]] w (Ans (.bool false) w) := by
  go_enter Tryz.func9, Tryz.ntmps9
  repeat (first | go_values | go_skip | go_guarded | go_step | go_upon)
  refine wp_loop_rounds 1 ?_
  rw [rounds_succ]
  repeat (first | go_values | go_skip | go_guarded | go_step | go_upon)
  go_ret
  exact ⟨rfl, (by repeat (first | exact Below.refl _ _ | assumption | refine bal ?_ _ | refine bdr ?_ | refine bdrn ?_ _ | (refine bset ?_ (by first | exact Nat.le_refl _ | (simp; done) | (simp; omega) | omega) _) | refine bstep ?_ (by assumption)))⟩
set_option maxRecDepth 100000 in
set_option maxHeartbeats 6400000 in
theorem nest_row (q : Bool) {n g o cap : Nat} {l : List Rr} {P : Nat → Prop} (w : World) (hq : nestE l = q) (hn : l.length = n) (_ : n ≤ cap) (hmax : n ≤ maxLen) (hg : P g) (r1 : RepR w P g o l) (hP : ∀ b, P b → b < w.heap.size) :
    Calls Tryz.prog 9 #[.agg #[.slice (some ⟨g, o, none⟩) n cap]] w (Ans (.bool q) w) := by
  have hm1 := cell_alloc_lt
  have HN := Lib.hid hn
  have HQ := Lib.hid hq
  have R1 := Lib.hid r1
  have HG := Lib.hid hg
  have HP := Lib.hid hP
  have lg := hP g hg
  unfold maxLen at hmax
  clear hn r1 hg hP hq
  go_enter Tryz.func9, Tryz.ntmps9
  repeat (first | go_values | go_skip | go_guarded | go_step | go_upon)
  go_loopw [3] (fun tt wr => ∃ j : Nat, tt = .int .i64 (j : Int) ∧ j ≤ n ∧ Hid (nestE (l.take j) = false) ∧ Below (w.alloc (.cells #[.slice (some ⟨g, o, none⟩) n cap] 25)).heap.size (w.alloc (.cells #[.slice (some ⟨g, o, none⟩) n cap] 25)) wr) (fun tt _ => n - (intOf tt).toNat)
  case atStart => exact ⟨0, rfl, Nat.zero_le _, Lib.hid rfl, Below.refl _ _⟩
  case round =>
    obtain ⟨j, rfl, hj, HE, hbr⟩ := hrel
    have HB := Lib.hid hbr
    have hA := (hbr.block w.heap.size (by simp)).trans (heap_alloc_new w (.cells #[.slice (some ⟨g, o, none⟩) n cap] 25))
    have s1 : wr.cell? ⟨w.heap.size, 0, none⟩ = some (.slice (some ⟨g, o, none⟩) n cap) := (cells_at hA).1 0
    have hw : Below w.heap.size w wr := (bal (Below.refl _ w) _).trans (hbr.mono (by simp))
    have HW := Lib.hid hw
    clear hA hbr hw
    by_cases hlt : j < n
    · obtain ⟨y, hy⟩ : ∃ y, l[j]? = some y := ⟨l[j]'(by rw [HN.out]; exact hlt), List.getElem?_eq_getElem (by rw [HN.out]; exact hlt)⟩
      obtain ⟨k1, t1, x1, sa, sn, sc, p1, l1, _, q0, _, a9, a0, a1, a2, a3, a4, a5, a6, a7, a8⟩ := (R1.out.mono (w' := wr) (P' := P) (fun b hb => HW.out.block b (HP.out b hb)) (fun _ h => h) HG.out).get hy
      have hz := HW.out.size
      have HC := Lib.hid (fun (q : Bool) (w' : World) (hq : hasE y.body = q) (e : w'.heap = wr.heap) => emp_any y.body q w' P _ hq (q0.mono (w' := w') (fun b _ => by rw [e]) (fun _ h => h)) (fun b hb => by rw [e]; exact Nat.lt_of_lt_of_le (HP.out b hb) hz))
      have HY := Lib.hid hy
      clear hy q0 a9 a8
      have d1 : decide ((j : Int) < n) = true := by simpa using hlt
      repeat (first | go_values | go_skip | go_guarded | go_step | go_upon)
      cases hE : hasE y.body with
      | true =>
        have hq2 : q = true := by rw [← HQ.out]; exact nest_at HY.out hE
        subst hq2
        refine (HC.out true wr hE rfl).mono ?_
        rintro e w1 ⟨rfl, hb1⟩
        dsimp only
        repeat (first | go_values | go_skip | go_guarded | go_step | go_upon)
        go_ret
        exact ⟨rfl, HW.out.trans (hb1.mono hz)⟩
      | false =>
        refine (HC.out false wr hE rfl).mono ?_
        rintro e w1 ⟨rfl, hb1⟩
        have HE2 := Lib.hid (nest_more HY.out HE.out hE)
        clear hE
        dsimp only
        repeat (first | go_values | go_skip | go_guarded | go_step | go_upon)
        exact ⟨⟨j + 1, by go_num, by omega, HE2, HB.out.trans (hb1.mono (by have := HB.out.size; simpa using this))⟩, by simp [intOf]; omega⟩
    · have d1 : decide (j < n) = false := by simpa using hlt
      have hq2 : q = false := by
        have := HE.out
        rw [show j = l.length by rw [HN.out]; omega, List.take_length] at this
        rw [← HQ.out, this]
      subst hq2
      clear hlt
      repeat (first | go_values | go_skip | go_guarded | go_step | go_upon)
      go_ret
      exact ⟨rfl, HW.out⟩
theorem nest_any {g : List Rr} {v : Value} {P : Nat → Prop} (q : Bool) (w : World) (hq : nestE g = q) (hr : RepGr w P g v) (hP : ∀ b, P b → b < w.heap.size) : Calls Tryz.prog 9 #[.agg #[v]] w (Ans (.bool q) w) := by
  rcases hr.parts with ⟨rfl, rfl⟩ | ⟨rfl, a, cap, rfl⟩ | ⟨g', o, cap, rfl, hg, hpos, hcap, hmax, h⟩
  · subst hq; exact nest_nil w
  · subst hq; exact nest_nil w
  · exact nest_row q w hq rfl hcap hmax hg h hP
end Go.Proofs.YteohgaheockepaaGreatDoor
