/- Too many parentheses are too many with other tokens behind: plain. | A tree whose text fits in one source fits in others: plain. | strings.Builder's copyCheck, WriteByte, WriteString on a builder that lies in a page (as BldW, the block being of page's type). | strings.Builder's String and Len on a builder that lies in a page; a page of bytes. -/
import Derived.Test.YteohgaheockepaaDoorG30
import Derived.Test.YteohgaheockepaaDoorG31
import Derived.Test.YteohgaheockepaaDoorG9
namespace Go.Proofs.YteohgaheockepaaDoor
open Go.RowKit

theorem ok_swap {f : Nat} {e : Tok} {S : List Tok} (he : e.kind = 6) (hS : StopT S) {d : Nat} {T T' r : List Tok} {n : Nd} {l l' : List Nd} (hT : NoEnd T) (hc : T.map bareT = T'.map bareT) (hl : SameL false l l') (h : pParts f d (T ++ [e]) l = some (.ok n r)) : ∃ T2 T2' m, r = T2 ++ [e] ∧ NoEnd T2 ∧ pParts f d (T' ++ S) l' = some (.ok m (T2' ++ S)) ∧ T2.map bareT = T2'.map bareT ∧ SameN false n m := by
  obtain ⟨T2, rfl, h2, g⟩ := (swap_all he hS f).parts (d' := d) hT hc (Nat.le_refl _) hl h
  rcases g with ⟨hne, _⟩ | ⟨m, T2', g, h3, h4⟩
  · exact absurd rfl hne
  · exact ⟨T2, T2', m, rfl, h2, g, h3, h4⟩
theorem badE_two {T : List Tok} : badE T ≠ 2 := by
  cases T with
  | nil => decide
  | cons t T => rw [badE]; split <;> decide
/-- An error stays the error. -/
structure Err2 (f : Nat) (e : Tok) (S : List Tok) : Prop where
  choice : ∀ {d x : Nat} {T T' : List Tok}, NoEnd T → T.map bareT = T'.map bareT → pChoice f d (T ++ [e]) = some (.err 2 x) → ∃ x', pChoice f d (T' ++ S) = some (.err 2 x')
  alts : ∀ {d x : Nat} {T T' : List Tok} {l l' : List Nd}, NoEnd T → T.map bareT = T'.map bareT → SameL false l l' → pAlts f d (T ++ [e]) l = some (.err 2 x) → ∃ x', pAlts f d (T' ++ S) l' = some (.err 2 x')
  parts : ∀ {d x : Nat} {T T' : List Tok} {l l' : List Nd}, NoEnd T → T.map bareT = T'.map bareT → SameL false l l' → pParts f d (T ++ [e]) l = some (.err 2 x) → ∃ x', pParts f d (T' ++ S) l' = some (.err 2 x')
  part : ∀ {d x : Nat} {T T' : List Tok}, NoEnd T → T.map bareT = T'.map bareT → pPart f d (T ++ [e]) = some (.err 2 x) → ∃ x', pPart f d (T' ++ S) = some (.err 2 x')
  one : ∀ {d x : Nat} {T T' : List Tok}, NoEnd T → T.map bareT = T'.map bareT → pOne f d (T ++ [e]) = some (.err 2 x) → ∃ x', pOne f d (T' ++ S) = some (.err 2 x')
theorem err2_all {e : Tok} {S : List Tok} (he : e.kind = 6) (hS : StopT S) : ∀ f, Err2 f e S := by
  intro f
  induction f with
  | zero => exact ⟨fun _ _ h => by simp [pChoice] at h, fun _ _ _ h => by simp [pAlts] at h, fun _ _ _ h => by simp [pParts] at h, fun _ _ h => by simp [pPart] at h, fun _ _ h => by simp [pOne] at h⟩
  | succ f ih =>
    refine ⟨fun {d x T T'} hT hc h => ?_, fun {d x T T' l l'} hT hc hl h => ?_, fun {d x T T' l l'} hT hc hl h => ?_, fun {d x T T'} hT hc h => ?_, fun {d x T T'} hT hc h => ?_⟩
    · rw [pChoice] at h
      rw [pChoice]
      cases e1 : pParts f d (T ++ [e]) [] with
      | none => rw [e1] at h; cases h
      | some y =>
        rw [e1] at h
        cases y with
        | err c1 x1 =>
          cases h
          obtain ⟨x', g⟩ := ih.parts hT hc .nil e1
          exact ⟨x', by rw [g]⟩
        | ok n r =>
          obtain ⟨T2, T2', m, rfl, h2, g, h3, h4⟩ := ok_swap he hS hT hc .nil e1
          rw [g]
          exact ih.alts h2 h3 (.cons h4 .nil) h
    · rw [pAlts] at h
      rw [pAlts]
      rcases sgn_bare (S := [e]) (S' := S) hc with ⟨rfl, rfl⟩ | ⟨hne, hs⟩
      · simp only [List.nil_append] at h
        rw [if_neg (end_stop he).sl] at h
        cases h
      · rw [← hs]
        split at h
        · next h47 =>
          rw [if_pos h47]
          obtain ⟨t, t', T1, T1', rfl, rfl, _, _, _, hc1⟩ := (bare_cases hc).resolve_left (fun h => hne h.1)
          simp only [List.cons_append, List.tail_cons] at h ⊢
          cases e1 : pParts f d (T1 ++ [e]) [] with
          | none => rw [e1] at h; cases h
          | some y =>
            rw [e1] at h
            cases y with
            | err c1 x1 =>
              cases h
              obtain ⟨x', g⟩ := ih.parts hT.tail hc1 .nil e1
              exact ⟨x', by rw [g]⟩
            | ok n r =>
              obtain ⟨T2, T2', m, rfl, h2, g, h3, h4⟩ := ok_swap he hS hT.tail hc1 .nil e1
              rw [g]
              exact ih.alts h2 h3 (hl.snoc h4) h
        · cases h
    · rw [pParts] at h
      rw [pParts]
      cases e1 : pPart f d (T ++ [e]) with
      | none => rw [e1] at h; cases h
      | some y =>
        rw [e1] at h
        cases y with
        | err c1 x1 =>
          cases h
          obtain ⟨x', g⟩ := ih.part hT hc e1
          exact ⟨x', by rw [g]⟩
        | ok a r =>
          obtain ⟨T2, rfl, h2, g⟩ := (swap_all he hS f).part (d' := d) hT hc (Nat.le_refl _) e1
          cases a with
          | none => cases h
          | some n =>
            rcases g with ⟨hne, _⟩ | ⟨m, T2', g, h3, h4⟩
            · exact absurd rfl hne
            · cases m with
              | none => exact h4.elim
              | some m =>
                rw [g]
                exact ih.parts h2 h3 (hl.snoc h4) h
    · have hp := pre_bare he hS hc
      obtain ⟨U, U', hU, hcU, eU, eU'⟩ : ∃ U U', NoEnd U ∧ U.map bareT = U'.map bareT ∧ (if preK (sgnOf (T ++ [e])) = 0 then T ++ [e] else (T ++ [e]).tail) = U ++ [e] ∧ (if preK (sgnOf (T' ++ S)) = 0 then T' ++ S else (T' ++ S).tail) = U' ++ S := by
        by_cases h0 : preK (sgnOf (T ++ [e])) = 0
        · exact ⟨T, T', hT, hc, by rw [if_pos h0], by rw [if_pos (by rw [← hp]; exact h0)]⟩
        · rcases bare_cases hc with ⟨rfl, rfl⟩ | ⟨t, t', T1, T1', rfl, rfl, _, _, _, hc1⟩
          · exact absurd (by simpa using (end_stop he).pre) h0
          · exact ⟨T1, T1', hT.tail, hc1, by rw [if_neg h0]; rfl, by rw [if_neg (by rw [← hp]; exact h0)]; rfl⟩
      cases e1 : pOne f d (U ++ [e]) with
      | none => rw [pPart, eU, e1] at h; cases h
      | some y =>
        cases y with
        | err c1 x1 =>
          rw [part_err (by rw [eU]; exact e1)] at h
          cases h
          obtain ⟨x', g⟩ := ih.one hU hcU e1
          exact ⟨x', part_err (by rw [eU']; exact g)⟩
        | ok a r =>
          obtain ⟨T2, rfl, h2, g⟩ := (swap_all he hS f).one (d' := d) hU hcU (Nat.le_refl _) e1
          cases a with
          | some n => rw [part_some (by rw [eU]; exact e1)] at h; cases h
          | none =>
            rw [pPart, eU, e1] at h
            simp only at h
            by_cases h0 : preK (sgnOf (T ++ [e])) = 0
            · rw [if_pos h0] at h; cases h
            · rw [if_neg h0] at h
              rcases g with ⟨hne, _⟩ | ⟨m, T2', g, h3, h4⟩
              · exact absurd rfl hne
              · cases m with
                | some m => exact h4.elim
                | none =>
                  have e2 := Option.some.inj h
                  injection e2 with e3 e4
                  exact absurd e3 badE_two
    · rcases bare_cases hc with ⟨rfl, rfl⟩ | ⟨t, t', T1, T1', rfl, rfl, hk, ht, _, hc1⟩
      · simp only [List.nil_append] at h
        rw [(end_stop he).one] at h
        cases h
      · have hb := kind_behind he hS hc1
        rw [List.cons_append, pOne] at h
        rw [List.cons_append, pOne, ← hk, ← ht]
        split at h
        · split at h <;> cases h
        next h1 =>
        rw [if_neg h1]
        split at h
        · cases h
        next h3 =>
        rw [if_neg h3]
        split at h
        · cases h
        next h4 =>
        rw [if_neg h4]
        split at h
        · cases h
        next h5 =>
        rw [if_neg h5]
        split at h
        · next h6 =>
          rw [if_pos h6]
          by_cases h24 : d = 24
          · rw [if_pos h24] at h
            rw [if_pos h24]
            have e2 := Option.some.inj h
            injection e2 with e3 e4
            exact ⟨_, rfl⟩
          · rw [if_neg h24] at h
            rw [if_neg h24]
            cases e1 : pChoice f (d + 1) (T1 ++ [e]) with
            | none => rw [e1] at h; cases h
            | some y =>
              rw [e1] at h
              cases y with
              | err c1 x1 =>
                cases h
                obtain ⟨x', g⟩ := ih.choice hT.tail hc1 e1
                exact ⟨x', by rw [g]⟩
              | ok n r =>
                obtain ⟨T2, rfl, h2, g⟩ := (swap_all he hS f).choice (d' := d + 1) hT.tail hc1 (Nat.le_refl _) e1
                rcases g with ⟨hne, _⟩ | ⟨m, T2', g, h3', h4'⟩
                · exact absurd rfl hne
                · simp only at h
                  by_cases h41 : sgnOf (T2 ++ [e]) = [41]
                  · rw [if_pos h41] at h; cases h
                  · rw [if_neg h41] at h
                    have e2 := Option.some.inj h
                    injection e2 with e3 e4
                    exact absurd e3 badE_two
        · cases h
end Go.Proofs.YteohgaheockepaaDoor
namespace Go.Proofs.YteohgaheockepaaDoor
open Go.RowKit

theorem cos_noEnd (l : List Pc) : ∀ p ∈ cos l, p.1 ≠ 6 := by
  induction l with
  | nil => intro p hp; cases hp
  | cons c l ih =>
    intro p hp
    rw [cos, List.mem_append] at hp
    rcases hp with hp | hp
    · cases c with
      | sp => cases hp
      | nl => cases hp
      | nm u => rw [List.mem_singleton.1 hp]; exact fun e => by cases e
      | sg b => rw [List.mem_singleton.1 hp]; exact fun e => by cases e
      | ar => rw [List.mem_singleton.1 hp]; exact fun e => by cases e
      | lt u => rw [List.mem_singleton.1 hp]; exact fun e => by cases e
      | cl x => rw [List.mem_singleton.1 hp]; exact fun e => by cases e
    · exact ih p hp
theorem core_noEnd {ts : List Tok} {l : List Pc} (h : ts.map core = cos l) : NoEnd ts := fun t ht => cos_noEnd l (core t) (by rw [← h]; exact List.mem_map_of_mem ht)
/-- Its tokens alone are read as it. -/
def Fit (n : Tr) : Prop := ∀ (T : List Tok) (e : Tok), e.kind = 6 → T.map core = cos (pcT n) → ∃ f m, pChoice f 0 (T ++ [e]) = some (.ok m [e]) ∧ SameT false n m.tr
theorem fit_of {n : Tr} (h : OkT n) {T' S r : List Tok} (hS : StopT S) (hc : T'.map core = cos (pcT n)) {f : Nat} {m : Nd} (h1 : pChoice f 0 (T' ++ S) = some (.ok m r)) : Fit n := by
  intro T e he hT
  rcases (main_tree h).cho 0 T [e] hT (end_stop he).row (end_stop he).sl with h2 | ⟨f2, x, h2⟩
  · exact h2
  · obtain ⟨x', h3⟩ := (err2_all he hS f2).choice (core_noEnd hT) (hT.trans hc.symm) h2
    have a := pChoice_mono h3 (Nat.le_max_left f2 f)
    have b := pChoice_mono h1 (Nat.le_max_right f2 f)
    rw [a] at b
    cases b
theorem rules_fit {e : Tok} (he : e.kind = 6) : ∀ (g : List Rr), (∀ r ∈ g, OkR r) → ∀ ts, ts.map core = cos (pcG g) → ∀ (f : Nat) (acc hs : List Ru) (r : List Tok), pRules f (ts ++ [e]) acc = some (.ok hs r) → ∀ x ∈ g, Fit x.body := by
  intro g
  induction g with
  | nil => intro _ _ _ _ _ _ _ _ x hx; cases hx
  | cons r g ih =>
    intro hr ts ht f acc hs rr h
    have hok := hr r List.mem_cons_self
    have ht2 : ts.map core = (1, r.name, 0) :: (2, [], 0) :: (cos (pcT r.body) ++ cos (pcG g)) := by
      rw [ht]
      show cos (.nm r.name :: .sp :: .ar :: .sp :: ((pcT r.body ++ [.nl]) ++ pcG g)) = _
      rw [List.append_assoc]
      show (1, r.name, 0) :: (2, [], 0) :: cos (pcT r.body ++ (.nl :: pcG g)) = _
      rw [cos_app]
      rfl
    obtain ⟨a, t0, rfl, a1, a2, _, ht3⟩ := core_cons ht2
    obtain ⟨b, t3, rfl, b1, _, _, ht4⟩ := core_cons ht3
    obtain ⟨t1, t2, rfl, h1, h2⟩ := core_app ht4
    dsimp only at a1 a2 b1
    have hg := fun m hm => hr m (List.mem_cons_of_mem _ hm)
    obtain ⟨⟨g1, g2⟩, _⟩ := rules_list he g hg t2 h2
    have ek : kindT (a :: b :: (t1 ++ t2) ++ [e]) = 1 := a1
    have ek2 : kindT (a :: b :: (t1 ++ t2) ++ [e]).tail = 2 := b1
    have et : (a :: b :: (t1 ++ t2) ++ [e]).tail.tail = t1 ++ (t2 ++ [e]) := by simp
    cases f with
    | zero => cases h
    | succ f =>
      rw [pRules, if_neg (by rw [ek]; omega)] at h
      split at h
      · cases h
      rw [if_neg (fun h => h ek), if_neg (fun h => h ek2), et] at h
      cases e1 : pChoice f 0 (t1 ++ (t2 ++ [e])) with
      | none => rw [e1] at h; cases h
      | some y =>
        rw [e1] at h
        cases y with
        | err c x => cases h
        | ok n r2 =>
          have hfit := fit_of hok.2 ⟨g2, g1.pre, g1.suf, g1.arrow, g1.one⟩ h1 e1
          obtain rfl : r2 = t2 ++ [e] := by
            rcases (main_tree hok.2).cho 0 t1 (t2 ++ [e]) h1 g1 g2 with ⟨f2, m, q1, _⟩ | ⟨f2, x, q⟩
            · have p1 := pChoice_mono q1 (Nat.le_max_left f2 f)
              have p2 := pChoice_mono e1 (Nat.le_max_right f2 f)
              rw [p1] at p2
              injection p2 with p2
              injection p2 with _ p2
              exact p2.symm
            · have p1 := pChoice_mono q (Nat.le_max_left f2 f)
              have p2 := pChoice_mono e1 (Nat.le_max_right f2 f)
              rw [p1] at p2
              cases p2
          intro x hx
          rcases List.mem_cons.1 hx with rfl | hx
          · exact hfit
          · exact ih hg t2 h2 f _ hs rr h x hx
/-- Each rule of a grammar whose text is read. -/
theorem gram_fit {g : List Rr} (h : ∀ r ∈ g, OkR r) (h8 : (txG g).length ≤ 8192) {hs : List Ru} (hr : Reads (txG g) (.inr hs)) : ∀ r ∈ g, Fit r.body := by
  rw [← txs_gram] at h8 hr
  obtain ⟨r, h1, h2⟩ := good_lexed (good_gram g h) h8
  unfold Reads at hr
  rw [h1] at hr
  obtain ⟨f, hr⟩ := hr
  rcases hr with ⟨c, x, _, e⟩ | ⟨g', r', q, _⟩
  · cases e
  · exact rules_fit rfl g h r h2 f [] g' r' q
/-- A rule of it, by another name, with a line's end or without. -/
theorem fit_reads {n : Tr} (h : OkT n) (hf : Fit n) {nm : List UInt8} (hn : isName nm = true) (X : List Pc) (hX : Good X) (hc : cos X = []) (hs : StopB (txs X)) (h8 : (nm ++ ([32, 60, 45, 32] ++ (txT n ++ txs X))).length ≤ 8192) : ∃ m x, Reads (nm ++ ([32, 60, 45, 32] ++ (txT n ++ txs X))) (.inr [⟨nm, m, x⟩]) ∧ SameT false n m.tr := by
  have hg : Good (.nm nm :: .sp :: .ar :: .sp :: (pcT n ++ X)) := ⟨hn, fun u e => stop_blank _, trivial, fun u e => (by cases e), trivial, fun u e => (by cases e), trivial, fun u e => (by cases e), good_tree h X hX hs⟩
  have htx : txs (.nm nm :: .sp :: .ar :: .sp :: (pcT n ++ X)) = nm ++ ([32, 60, 45, 32] ++ (txT n ++ txs X)) := by
    show nm ++ (32 :: 60 :: 45 :: 32 :: txs (pcT n ++ X)) = _
    rw [txs_app]
    rfl
  rw [← htx] at h8 ⊢
  obtain ⟨r, h1, h2⟩ := good_lexed hg h8
  have ht2 : r.map core = (1, nm, 0) :: (2, [], 0) :: cos (pcT n) := by
    rw [h2]
    show (1, nm, 0) :: (2, [], 0) :: cos (pcT n ++ X) = _
    rw [cos_app, hc, List.append_nil]
  obtain ⟨a, t0, rfl, a1, a2, _, ht3⟩ := core_cons ht2
  obtain ⟨b, t1, rfl, b1, _, _, ht4⟩ := core_cons ht3
  dsimp only at a1 a2 b1
  obtain ⟨e, he, hE⟩ : ∃ e : Tok, e.kind = 6 ∧ e = ⟨6, [], 0, (txs (.nm nm :: .sp :: .ar :: .sp :: (pcT n ++ X))).length⟩ := ⟨_, rfl, rfl⟩
  rw [← hE] at h1
  obtain ⟨f, m, q1, q2⟩ := hf t1 e he ht4
  have ek : kindT (a :: b :: t1 ++ [e]) = 1 := a1
  have ek2 : kindT (a :: b :: t1 ++ [e]).tail = 2 := b1
  have et : (a :: b :: t1 ++ [e]).tail.tail = t1 ++ [e] := rfl
  refine ⟨m, a.pos, ?_, q2⟩
  unfold Reads
  rw [h1]
  refine ⟨f + 2, .inr ⟨[⟨nm, m, a.pos⟩], [e], ?_, rfl⟩⟩
  rw [pRules, if_neg (by rw [ek]; omega), if_neg (fun h => absurd h.1 (by simp)), if_neg (fun h => h ek), if_neg (fun h => h ek2), et, pChoice_mono q1 (Nat.le_succ f)]
  show pRules (f + 1) [e] [⟨a.text, m, a.pos⟩] = _
  rw [pRules, if_pos ⟨by simp, he⟩, a2]
end Go.Proofs.YteohgaheockepaaDoor
namespace Go.Proofs.YteohgaheockepaaDoor
open Go.RowKit Go.Sort

/-- A page at b that holds these bytes. -/
def Pg (B b : Nat) (bs : List Value) (w : World) : Prop := Lib.IsBuilderF 53 5 B b bs w
theorem pg_size : (Tryd.prog.info? 53).map (·.size) = some 2 := by kernel_rfl
theorem pg_lies : liesAt Tryd.prog Tryd.prog.depth 53 (2 / Tryd.prog.cellsOf 53) 0 51 1 = true := by kernel_rfl
set_option maxHeartbeats 1000000 in
set_option maxRecDepth 100000 in
theorem pg_copyCheck_any (B b : Nat) (bs : List Value) (w : World) (h : Pg B b bs w) :
    Calls Tryd.prog 28 #[.pointer (some ⟨b, 0, none⟩)] w fun e w' => e = .returned (.tuple #[]) ∧ Lib.BuilderAtF 53 5 B b (.pointer (some ⟨b, 0, none⟩)) bs w' ∧ Below B w w' ∧ Oth b w w' := by
  obtain ⟨j, hj, hjs⟩ := Option.map_eq_some_iff.1 bld_size
  rcases h with h | h
  · have h0 := h.cell0
    have hsh := h.shape
    have hfz := h.frozen0
    have H := Lib.hid h
    clear h
    go_enter Tryd.func28, Tryd.ntmps28
    go_wp2
    rw [Lib.run_to_unsafe w ⟨b, 0, none⟩ Tryd.underlying48 Tryd.underlying93 hj (by rw [hjs]; decide) hsh (Nat.zero_lt_succ 1)]
    simp only [Result.andThen]
    rw [Oper.upon_value]
    go_wp2
    rw [run_callFunc_extern Tryd.func46 (by kernel_rfl) (by kernel_rfl) (by kernel_rfl) (e := Extern.AbiNoEscape.same) (by kernel_rfl)]
    rw [Lib.run_noEscape]
    simp only [Result.andThen]
    rw [Oper.upon_value]
    go_wp2
    rw [Lib.run_from_unsafe w ⟨b, 0, none⟩ Tryd.underlying93 Tryd.underlying48 hj hsh pg_lies]
    simp only [Result.andThen]
    rw [Oper.upon_value]
    go_wp2
    go_end0
    exact ⟨rfl, H.out.used _, (Below.refl B w).setCell (p := ⟨b, 0, none⟩) H.out.1 _, (Lib.OthersKept.refl _ _ w).setCell ⟨b, 0, none⟩ rfl _⟩
  · have h0 := h.cell0
    have H := Lib.hid h
    clear h
    go_enter Tryd.func28, Tryd.ntmps28
    go_wp2
    rw [Lib.run_neq_ptr_same w _ Tryd.underlying48 hj]
    go_wp2
    go_end0
    exact ⟨rfl, H.out, Below.refl B _, Lib.OthersKept.refl _ _ _⟩
set_option maxHeartbeats 2000000 in
set_option maxRecDepth 100000 in
theorem pg_writeByte_any (B b : Nat) (bs : List Value) (c : Int) (w : World) (h : Pg B b bs w) (hlen : bs.length + 1 ≤ 140737488355328) (hBw : B ≤ w.heap.size) :
    Calls Tryd.prog 17 #[.pointer (some ⟨b, 0, none⟩), .int .u8 c] w fun e w' => e = .returned .nilIface ∧ Pg B b (bs ++ [.int .u8 c]) w' ∧ Below B w w' ∧ Oth b w w' := by
  obtain ⟨i0, hi, hz0, hz1, hz2⟩ := info_parts bld_byte
  have HB := Lib.hid h
  clear h
  go_enter Tryd.func17, Tryd.ntmps17
  repeat (first | go_values | go_skip | go_guarded | go_step | go_upon)
  refine (pg_copyCheck_any B b bs _ HB.out).mono ?_
  rintro e w1 ⟨rfl, h1, hb1, hk1⟩
  obtain ⟨hB, v, hbk, hown, hne⟩ := h1
  have c0 : w1.cell? ⟨b, 0, none⟩ = some (.pointer (some ⟨b, 0, none⟩)) := by rw [Lib.cell_of_heap hbk]; rfl
  have c1 : w1.cell? ⟨b, 1, none⟩ = some v := by rw [Lib.cell_of_heap hbk]; rfl
  dsimp only
  repeat (first | (at_builtin; refine wpList_append_ownF _ rfl _ _ 49 rfl B 5 i0 (.int .u8 0) 1 1 Tryd.underlying49 hi hz0 hz1 hz2 rfl (by decide) _ _ _ rfl (hown.alloc _) ⟨w1.heap.size, 0, none⟩ 1 1 [.int .u8 c] rfl rfl ?c1 ?c2 ?c3 ?c4 ?c5 ?_) | go_values | go_skip | go_guarded | go_step | go_upon)
  case c1 =>
    intro j u hj
    match j, hj with
    | 0, hj => simp at hj; subst hj; simp [Addr.add]
  case c2 => intro u hu; simp at hu; subst hu; rfl
  case c3 => unfold maxLen; omega
  case c4 => omega
  case c5 => have := hb1.size; simp; omega
  intro v' w2 hown' hgrow _
  have hlt : b < w1.heap.size := by
    rcases Nat.lt_or_ge b w1.heap.size with h' | h'
    · exact h'
    · simp [Array.getElem?_eq_none h'] at hbk
  have hb2 : w2.heap[b]? = some (.cells #[.pointer (some ⟨b, 0, none⟩), v] 53 (0, 0)) := by
    rw [hgrow.block b (by simp; omega) (fun e => hne e.symm), Lib.alloc_old w1 _ b hlt]
    exact hbk
  have d0 : w2.cell? ⟨b, 0, none⟩ = some (.pointer (some ⟨b, 0, none⟩)) := by rw [Lib.cell_of_heap hb2]; rfl
  have d1 : w2.cell? ⟨b, 1, none⟩ = some v := by rw [Lib.cell_of_heap hb2]; rfl
  have f1 : w2.frozen? ⟨b, 1, none⟩ = false := Lib.frozen_of_heap hb2 1
  obtain ⟨g, cap, rfl⟩ : ∃ g cap, v' = .slice (some ⟨g, 0, none⟩) (bs.length + 1) cap := by
    rcases hown'.2 with ⟨_, h0⟩ | ⟨g, cap, cur, fz, hv, _⟩
    · omega
    · exact ⟨g, cap, hv⟩
  repeat (first | go_values | go_skip | go_guarded | go_step | go_upon)
  go_ret
  refine ⟨rfl, .inr ?_, ?_, ((hk1.alloc _).grown hgrow (Lib.ownsRowF_kind (hown.alloc _))).setCell ⟨b, 1, none⟩ rfl _⟩
  · exact Lib.BuilderAtF.put (T := 53) (e := 5) hB hb2 (bs' := bs ++ [.int .u8 c]) (by simpa using hown') (by decide)
  · exact ((hb1.alloc (by have := hb1.size; omega) _).grown hgrow (by have := hb1.size; simp; omega) (fun k hk => (hown.lt k hk).1)).setCell (p := ⟨b, 1, none⟩) hB _
set_option maxHeartbeats 2000000 in
set_option maxRecDepth 100000 in
theorem pg_writeString_any (B b : Nat) (bs : List Value) (s : ByteArray) (w : World) (h : Pg B b bs w) (hlen : bs.length + s.size ≤ 140737488355328) (hBw : B ≤ w.heap.size) :
    Calls Tryd.prog 15 #[.pointer (some ⟨b, 0, none⟩), .string s] w fun e w' => e = .returned (.tuple #[.int .i64 s.size, .nilIface]) ∧ Pg B b (bs ++ Lib.strCells s) w' ∧ Below B w w' ∧ Oth b w w' := by
  obtain ⟨i0, hi, hz0, hz1, hz2⟩ := info_parts bld_byte
  have HB := Lib.hid h
  clear h
  go_enter Tryd.func15, Tryd.ntmps15
  repeat (first | go_values | go_skip | go_guarded | go_step | go_upon)
  refine (pg_copyCheck_any B b bs _ HB.out).mono ?_
  rintro e w1 ⟨rfl, h1, hb1, hk1⟩
  obtain ⟨hB, v, hbk, hown, hne⟩ := h1
  have c0 : w1.cell? ⟨b, 0, none⟩ = some (.pointer (some ⟨b, 0, none⟩)) := by rw [Lib.cell_of_heap hbk]; rfl
  have c1 : w1.cell? ⟨b, 1, none⟩ = some v := by rw [Lib.cell_of_heap hbk]; rfl
  dsimp only
  repeat (first | (at_builtin; refine Lib.wpList_append_own_stringF _ rfl _ _ 49 9 rfl B 5 i0 Tryd.underlying49 Tryd.underlying9 hi hz0 hz1 hz2 _ _ _ rfl hown s rfl ?c3 ?c4 ?c5 ?_) | go_values | go_skip | go_guarded | go_step | go_upon)
  case c3 => unfold maxLen; omega
  case c4 => omega
  case c5 => have := hb1.size; omega
  intro v' w2 hown' hgrow _
  have hlt : b < w1.heap.size := by
    rcases Nat.lt_or_ge b w1.heap.size with h' | h'
    · exact h'
    · simp [Array.getElem?_eq_none h'] at hbk
  have hb2 : w2.heap[b]? = some (.cells #[.pointer (some ⟨b, 0, none⟩), v] 53 (0, 0)) := by
    rw [hgrow.block b hlt (fun e => hne e.symm)]
    exact hbk
  have d0 : w2.cell? ⟨b, 0, none⟩ = some (.pointer (some ⟨b, 0, none⟩)) := by rw [Lib.cell_of_heap hb2]; rfl
  have d1 : w2.cell? ⟨b, 1, none⟩ = some v := by rw [Lib.cell_of_heap hb2]; rfl
  have f1 : w2.frozen? ⟨b, 1, none⟩ = false := Lib.frozen_of_heap hb2 1
  obtain ⟨ao, n', cap, rfl⟩ : ∃ ao n' cap, v' = .slice ao n' cap := by
    rcases hown'.2 with ⟨hv, _⟩ | ⟨g, cap, cur, fz, hv, _⟩
    · exact ⟨_, _, _, hv⟩
    · exact ⟨_, _, _, hv⟩
  repeat (first | go_values | go_skip | go_guarded | go_step | go_upon)
  go_ret2
  refine ⟨rfl, .inr ?_, ?_, (hk1.grown hgrow (Lib.ownsRowF_kind hown)).setCell ⟨b, 1, none⟩ rfl _⟩
  · exact Lib.BuilderAtF.put (T := 53) (e := 5) hB hb2 (bs' := bs ++ Lib.strCells s) (by simpa [Lib.strCells_length] using hown') (by decide)
  · exact (hb1.grown hgrow (by have := hb1.size; omega) (fun k hk => (hown.lt k hk).1)).setCell (p := ⟨b, 1, none⟩) hB _
end Go.Proofs.YteohgaheockepaaDoor
namespace Go.Proofs.YteohgaheockepaaDoor
open Go.RowKit Go.Sort

theorem cells_u8 : Tryd.prog.cellsOf 5 = 1 := by kernel_rfl
set_option maxHeartbeats 1000000 in
set_option maxRecDepth 100000 in
theorem pg_string_any (B b : Nat) (l : List UInt8) (w : World) (h : Pg B b (Lib.byteCells l) w) (h0 : l ≠ []) :
    Calls Tryd.prog 19 #[.pointer (some ⟨b, 0, none⟩)] w fun e w' => e = .returned (.string ⟨l.toArray⟩) ∧ Pg B b (Lib.byteCells l) w' ∧ Below B w w' ∧ Oth b w w' := by
  obtain ⟨p, hp, hAt⟩ : ∃ p, (p = .pointer none ∨ p = .pointer (some ⟨b, 0, none⟩)) ∧ Lib.BuilderAtF 53 5 B b p (Lib.byteCells l) w := by
    rcases h with h | h
    · exact ⟨_, .inl rfl, h⟩
    · exact ⟨_, .inr rfl, h⟩
  obtain ⟨hB, v, hbk, hown, hne⟩ := hAt
  have hl0 : l.length ≠ 0 := by simpa using h0
  rw [Lib.byteCells_length] at hown
  have hown2 := hown
  obtain ⟨g, cap, cur, fz, rfl, hbg, hg, _, hnc, hcm, hcs, _⟩ : ∃ g cap cur fz, v = .slice (some ⟨g, 0, none⟩) l.length cap ∧ B ≤ g ∧ w.heap[g]? = some (.cells cur 5 fz) ∧ fz.2 ≤ l.length * 1 ∧ l.length ≤ cap ∧ cap ≤ maxLen ∧ cur.size = cap * 1 ∧ cur.toList.take (l.length * 1) = Lib.byteCells l := by
    rcases hown2.2 with ⟨_, hz⟩ | ⟨g, cap, cur, fz, hv, r⟩
    · exact absurd hz hl0
    · exact ⟨g, cap, cur, fz, hv, r⟩
  have c1 : w.drew.cell? ⟨b, 1, none⟩ = some (.slice (some ⟨g, 0, none⟩) l.length cap) := by
    have : w.drew.heap[b]? = some (.cells #[p, .slice (some ⟨g, 0, none⟩) l.length cap] 53 (0, 0)) := hbk
    rw [Lib.cell_of_heap this]; rfl
  have hSD : (Builtin.unsafeSliceData_ #[49] 79 #[.slice (some ⟨g, 0, none⟩) l.length cap]).run Tryd.prog w.drew = .ok (.pointer (some ⟨g, 0, none⟩)) w.drew :=
    Lib.run_unsafeSliceData_row _ _ _ _ _ _ (by omega)
  have hUS : (Builtin.unsafeString_ #[79, 3] 9 #[.pointer (some ⟨g, 0, none⟩), .int .i64 l.length]).run Tryd.prog w.drew = .ok (.string ⟨l.toArray⟩) (w.drew.freeze ⟨g, 0, none⟩ l.length) := by
    refine Lib.run_unsafeString_row w.drew 79 3 9 5 Tryd.underlying79 cells_u8 g cur.size (by have hg' : w.drew.heap[g]? = some (.cells cur 5 fz) := hg; simp [World.shape?, hg']) l h0 (by omega) (by unfold maxLen at hcm; omega) ?_
    intro j x hx
    exact hown.cells (g := g) rfl j (.int .u8 x.toNat) (by simp [Lib.byteCells, hx])
  have hkeep : Pg B b (Lib.byteCells l) (w.drew.freeze ⟨g, 0, none⟩ l.length) := by
    have hA : Lib.BuilderAtF 53 5 B b p (Lib.byteCells l) w.drew := ⟨hB, _, hbk, by rw [Lib.byteCells_length]; exact hown, hne⟩
    have hF := hA.froze (g := g) (cap := cap) (by rw [Lib.byteCells_length]; exact c1)
    rw [Lib.byteCells_length] at hF
    rcases hp with rfl | rfl
    · exact .inl hF
    · exact .inr hF
  have mixed : Tryd.prog.follows Departure.mixedOrders = true := by kernel_rfl
  go_enter Tryd.func19, Tryd.ntmps19
  go_wp2
  go_region_o
  all_goals (go_wp2; go_ret; exact ⟨rfl, hkeep, Lib.below_freeze (Below.drew (Below.refl B w)) (p := ⟨g, 0, none⟩) hbg _, ((Lib.OthersKept.refl _ _ w).drew).freeze ⟨g, 0, none⟩ _ ⟨cur, fz, hg⟩⟩)
set_option maxRecDepth 100000 in
theorem pg_len_any (B b : Nat) (l : List UInt8) (w : World) (h : Pg B b (Lib.byteCells l) w) :
    Calls Tryd.prog 33 #[.pointer (some ⟨b, 0, none⟩)] w (Ans (.int .i64 (l.length : Nat)) w) := by
  obtain ⟨p, hAt⟩ : ∃ p, Lib.BuilderAtF 53 5 B b p (Lib.byteCells l) w := by
    rcases h with h | h
    · exact ⟨_, h⟩
    · exact ⟨_, h⟩
  obtain ⟨_, v, hbk, hown, _⟩ := hAt
  rw [Lib.byteCells_length] at hown
  obtain ⟨a, cap, rfl⟩ : ∃ a cap, v = .slice a l.length cap := by
    rcases hown.2 with ⟨hv, hz⟩ | ⟨g, cap, cur, fz, hv, r⟩
    · exact ⟨_, _, by rw [hv, hz]⟩
    · exact ⟨_, _, hv⟩
  have c1 : w.cell? ⟨b, 1, none⟩ = some (.slice a l.length cap) := by rw [Lib.cell_of_heap hbk]; rfl
  clear hown hbk h
  go_enter Tryd.func33, Tryd.ntmps33
  repeat (first | go_values | go_skip | go_guarded | go_step | go_upon)
  go_ret
  exact ⟨rfl, (by repeat (first | exact Below.refl _ _ | assumption | refine bal ?_ _ | refine bdr ?_ | refine bdrn ?_ _ | (refine bset ?_ (by first | exact Nat.le_refl _ | (simp; done) | (simp; omega) | omega) _) | refine bstep ?_ (by assumption)))⟩
theorem pg_below {B b : Nat} {bs : List Value} {w w' : World} (h : Pg B b bs w) (hb : Below w.heap.size w w') : Pg B b bs w' := by
  have key : ∀ p, Lib.BuilderAtF 53 5 B b p bs w → Lib.BuilderAtF 53 5 B b p bs w' := by
    rintro p ⟨hB, v, hbk, hown, hne⟩
    have hlt : b < w.heap.size := (Array.getElem?_eq_some_iff.1 hbk).1
    exact ⟨hB, v, (hb.block _ hlt).trans hbk, hown.kept (row := none) ⟨hb.os, hb.tape, hb.output, hb.size, fun k hk _ => hb.block k hk⟩ (by cases v.ownBlock <;> simp), hne⟩
  exact h.elim (fun h => .inl (key _ h)) (fun h => .inr (key _ h))
theorem pg_new (w : World) : Pg w.heap.size w.heap.size [] (w.alloc (.cells #[.pointer none, .slice none 0 0] 53)) :=
  .inl ⟨Nat.le_refl _, _, heap_alloc_new _ _, World.ownsRowF_nil _ _ _ _, by simp [Value.ownBlock]⟩
theorem pg_lt {B b : Nat} {bs : List Value} {w : World} (h : Pg B b bs w) : b < w.heap.size := by
  rcases h with ⟨_, v, hbk, _⟩ | ⟨_, v, hbk, _⟩ <;> exact (Array.getElem?_eq_some_iff.1 hbk).1
theorem pg_wb (b : Nat) (A : List UInt8) (c : UInt8) (x : Int) (w : World) (hx : x = c.toNat) (h : Pg b b (Lib.byteCells A) w) (hl : A.length ≤ 140000000000000) :
    Calls Tryd.prog 17 #[.pointer (some ⟨b, 0, none⟩), .int .u8 x] w fun e w' => e = .returned .nilIface ∧ Pg b b (Lib.byteCells (A ++ [c])) w' ∧ Below b w w' ∧ Oth b w w' := by
  subst hx
  refine (pg_writeByte_any b b _ _ w h (by rw [Lib.byteCells_length]; omega) (Nat.le_of_lt (pg_lt h))).mono ?_
  rintro e w' ⟨h1, h2, h3, h4⟩
  exact ⟨h1, by rw [Lib.byteCells_append]; exact h2, h3, h4⟩
theorem pg_ws (b : Nat) (A S : List UInt8) (w : World) (h : Pg b b (Lib.byteCells A) w) (hl : A.length + S.length ≤ 140000000000000) :
    Calls Tryd.prog 15 #[.pointer (some ⟨b, 0, none⟩), .string ⟨S.toArray⟩] w fun e w' => e = .returned (.tuple #[.int .i64 (S.length : Nat), .nilIface]) ∧ Pg b b (Lib.byteCells (A ++ S)) w' ∧ Below b w w' ∧ Oth b w w' := by
  have hs : (⟨S.toArray⟩ : ByteArray).size = S.length := by simp [ByteArray.size]
  refine (pg_writeString_any b b _ _ w h (by rw [Lib.byteCells_length, hs]; omega) (Nat.le_of_lt (pg_lt h))).mono ?_
  rintro e w' ⟨h1, h2, h3, h4⟩
  exact ⟨by rw [h1, hs], by rw [Lib.byteCells_append, ← strCells_txt S]; exact h2, h3, h4⟩
set_option maxRecDepth 100000 in
theorem wide_any (b : Nat) (A : List UInt8) (q : Bool) (hq : decide (8192 < A.length) = q) (w : World) (h : Pg b b (Lib.byteCells A) w) : Calls Tryd.prog 18 #[.pointer (some ⟨b, 0, none⟩)] w (Ans (.bool q) w) := by
  have HL := Lib.hid (fun (w' : World) (h' : Below w.heap.size w w') => pg_len_any b b A w' (pg_below h h'))
  have e1 : decide ((8192 : Int) < A.length) = q := by rw [← hq]; exact decide_eq_decide.2 (by omega)
  clear h hq
  cases q with
  | true =>
    go_enter Tryd.func18, Tryd.ntmps18
    repeat (first | go_values | go_skip | go_guarded | go_step | go_upon)
    refine (HL.out _ (by repeat (first | exact Below.refl _ _ | assumption | refine bal ?_ _ | refine bdr ?_ | refine bdrn ?_ _ | (refine bset ?_ (by first | exact Nat.le_refl _ | (simp; done) | (simp; omega) | omega) _) | refine bstep ?_ (by assumption)))).mono ?_
    rintro e w1 ⟨rfl, hb1⟩
    obtain ⟨hc1, hf1⟩ := bcell hb1
    have hz1 := hb1.size
    try simp at hz1
    dsimp only
    repeat (first | go_values | go_skip | go_guarded | go_step | go_upon)
    go_ret
    exact ⟨rfl, (by repeat (first | exact Below.refl _ _ | assumption | refine bal ?_ _ | refine bdr ?_ | refine bdrn ?_ _ | (refine bset ?_ (by first | exact Nat.le_refl _ | (simp; done) | (simp; omega) | omega) _) | refine bstep ?_ (by assumption)))⟩
  | false =>
    go_enter Tryd.func18, Tryd.ntmps18
    repeat (first | go_values | go_skip | go_guarded | go_step | go_upon)
    refine (HL.out _ (by repeat (first | exact Below.refl _ _ | assumption | refine bal ?_ _ | refine bdr ?_ | refine bdrn ?_ _ | (refine bset ?_ (by first | exact Nat.le_refl _ | (simp; done) | (simp; omega) | omega) _) | refine bstep ?_ (by assumption)))).mono ?_
    rintro e w1 ⟨rfl, hb1⟩
    obtain ⟨hc1, hf1⟩ := bcell hb1
    have hz1 := hb1.size
    try simp at hz1
    dsimp only
    repeat (first | go_values | go_skip | go_guarded | go_step | go_upon)
    go_ret
    exact ⟨rfl, (by repeat (first | exact Below.refl _ _ | assumption | refine bal ?_ _ | refine bdr ?_ | refine bdrn ?_ _ | (refine bset ?_ (by first | exact Nat.le_refl _ | (simp; done) | (simp; omega) | omega) _) | refine bstep ?_ (by assumption)))⟩
end Go.Proofs.YteohgaheockepaaDoor
