/- The tokens of a tree's text are read as the tree, if not too many parentheses are open: by its kinds: plain. | Too many parentheses are too many with other tokens behind: plain. | A grammar's text is read as the grammar, if not too many parentheses are open: plain. | How large a tree is; whether it may be printed: plain. | Whether a tree may be printed, told by its nodes; how long its text is: plain. -/
import Derived.Test.YtjlcoldnhbkcgaaGreatDoorG26
import Derived.Test.YtjlcoldnhbkcgaaGreatDoorG19
import Derived.Test.YtjlcoldnhbkcgaaGreatDoorG15
namespace Go.Proofs.YtjlcoldnhbkcgaaGreatDoor
open Go.RowKit

theorem stopP_rest {ts R : List Tok} (h : StopP R) (h2 : ts = [] ∨ StartP ts) : kindT (ts ++ R) ≠ 2 ∧ sufK (sgnOf (ts ++ R)) = 0 := by
  rcases h2 with rfl | h2
  · exact ⟨h.arrow, h.suf⟩
  · exact ⟨(h2 R).1, (h2 R).2.1⟩
/-- Parts, one behind another. -/
theorem parts_list {d : Nat} {R : List Tok} (hS : StopP R) : ∀ (l : List Tr) (first : Bool), (∀ n ∈ l, MainR n) → (∀ n ∈ l, OkT n) → ∀ ts, ts.map core = cos (pcR [.sp] 2 first l) → PartsR d ts R l ∧ (l = [] → ts = []) ∧ (l ≠ [] → StartP ts) := by
  intro l
  induction l with
  | nil =>
    intro first _ _ ts ht
    rw [pcR_nil] at ht
    obtain rfl : ts = [] := List.map_eq_nil_iff.1 ht
    exact ⟨PartsR.stop hS, fun _ => rfl, fun h => absurd rfl h⟩
  | cons n l ih =>
    intro first hm ho ts ht
    have ht2 : ts.map core = cos (pcQ 2 n) ++ cos (pcR [.sp] 2 false l) := by
      rw [ht, pcR_cons, cos_app, cos_app]
      cases first <;> rfl
    obtain ⟨t1, t2, rfl, h1, h2⟩ := core_app ht2
    obtain ⟨g1, g2, g3⟩ := ih false (fun m h => hm m (List.mem_cons_of_mem _ h)) (fun m h => ho m (List.mem_cons_of_mem _ h)) t2 h2
    have hr := stopP_rest (ts := t2) hS (by
      cases l with
      | nil => exact .inl (g2 rfl)
      | cons _ _ => exact .inr (g3 (by simp)))
    exact ⟨((hm n List.mem_cons_self).part2 h1 hr.1 hr.2).cons g1, fun e => (by cases e), fun _ => start_app (start_part (ho n List.mem_cons_self) h1)⟩
/-- Rows, one behind another, each with a sign ahead. -/
theorem alts_list {d : Nat} {R : List Tok} (hS : StopP R) (h47 : sgnOf R ≠ [47]) : ∀ (l : List Tr), (∀ n ∈ l, MainR n) → ∀ ts, ts.map core = cos (pcR [.sp, .sg 47, .sp] 1 false l) → AltsR d ts R l ∧ StopP (ts ++ R) := by
  intro l
  induction l with
  | nil =>
    intro _ ts ht
    rw [pcR_nil] at ht
    obtain rfl : ts = [] := List.map_eq_nil_iff.1 ht
    exact ⟨AltsR.stop h47, hS⟩
  | cons n l ih =>
    intro hm ts ht
    have ht2 : ts.map core = (5, [47], 0) :: (cos (pcQ 1 n) ++ cos (pcR [.sp, .sg 47, .sp] 1 false l)) := by
      rw [ht, pcR_cons, cos_app, cos_app]
      rfl
    obtain ⟨a, t0, rfl, a1, a2, _, ht3⟩ := core_cons ht2
    obtain ⟨t1, t2, rfl, h1, h2⟩ := core_app ht3
    obtain ⟨g1, g2⟩ := ih (fun m h => hm m (List.mem_cons_of_mem _ h)) t2 h2
    exact ⟨RowR.cons (sgn_is a1 a2) ((hm n List.mem_cons_self).row1 h1 g2) g1, slash_row a1 a2⟩
theorem trs_one {x : Tr} {m : Nd} (h : SameT false x m.tr) : SameU false [x] (Nd.trs [m]) := by
  rw [Nd.trs, Nd.trs]
  exact .cons h .nil
theorem same_join {k : Nat} {z : Int} (hz : z = (k : Int)) {l : List Tr} {ms : List Nd} {p : Int} (hl : 1 < l.length) (h : SameU false l (Nd.trs ms)) : SameT false (.mk z [] 0 l p) (joinN k ms).tr := by
  subst hz
  have hlen := h.length
  rw [Nd.trs_length] at hlen
  match ms with
  | [] => rw [List.length_nil] at hlen; omega
  | [_] => rw [List.length_singleton] at hlen; omega
  | a :: b :: ms =>
    rw [joinN, Nd.tr]
    exact .mk (fun e => by cases e) h
theorem main_tree {n : Tr} (h : OkT n) : MainR n := by
  induction h with
  | @empty p =>
    refine main_one (fun d ts R ht _ => ?_)
    obtain ⟨a, t2, rfl, a1, a2, _, ht2⟩ := core_cons (show ts.map core = (5, [40], 0) :: [(5, [41], 0)] from ht)
    obtain ⟨b, rfl, b1, b2, _⟩ := core_one ht2
    refine ⟨by rw [List.cons_append, sgn_is a1 a2]; rfl, ChoR.within (ts := []) ⟨a1, a2⟩ ⟨b1, b2⟩ (fun _ => ?_)⟩
    obtain ⟨c1, c2⟩ := close_row (R := R) b1 b2
    refine RowR.cho ?_ c2
    rcases PartsR.stop (d := d + 1) c1 [] with ⟨f, ms, g1, g2⟩ | ⟨f, x, g⟩
    · cases ms with
      | nil => exact .inl ⟨f, _, g1, .mk (fun e => by cases e) .nil⟩
      | cons m ms => rw [Nd.trs] at g2; cases g2
    · exact .inr ⟨f, x, g⟩
  | @lit t p _ =>
    refine main_one (fun d ts R ht _ => ?_)
    obtain ⟨a, rfl, a1, a2, a3⟩ := core_one (show ts.map core = [(3, t, 0)] from ht)
    dsimp only at a1 a2 a3
    refine ⟨by rw [List.cons_append, sgn_no (by omega)]; rfl, .inl ⟨1, .mk 2 a.text a.cls [] a.pos, ?_, ?_⟩⟩
    · rw [List.cons_append, pOne, if_neg (by omega), if_pos a1]
      rfl
    · rw [a2, a3]
      exact .mk (fun e => by cases e) .nil
  | @set c p =>
    refine main_one (fun d ts R ht _ => ?_)
    obtain ⟨a, rfl, a1, a2, a3⟩ := core_one (show ts.map core = [(4, [], c)] from ht)
    dsimp only at a1 a2 a3
    refine ⟨by rw [List.cons_append, sgn_no (by omega)]; rfl, .inl ⟨1, .mk 3 a.text a.cls [] a.pos, ?_, ?_⟩⟩
    · rw [List.cons_append, pOne, if_neg (by omega), if_neg (by omega), if_pos a1]
      rfl
    · rw [a2, a3]
      exact .mk (fun e => by cases e) .nil
  | @any p =>
    refine main_one (fun d ts R ht _ => ?_)
    obtain ⟨a, rfl, a1, a2, a3⟩ := core_one (show ts.map core = [(5, [46], 0)] from ht)
    dsimp only at a1 a2 a3
    refine ⟨by rw [List.cons_append, sgn_is a1 a2]; rfl, .inl ⟨1, .mk 4 [] a.cls [] a.pos, ?_, ?_⟩⟩
    · rw [List.cons_append, pOne, if_neg (by omega), if_neg (by omega), if_neg (by omega), if_pos ⟨a1, a2⟩]
      rfl
    · rw [a3]
      exact .mk (fun e => by cases e) .nil
  | @ref t p _ =>
    refine main_one (fun d ts R ht hk => ?_)
    obtain ⟨a, rfl, a1, a2, a3⟩ := core_one (show ts.map core = [(1, t, 0)] from ht)
    dsimp only at a1 a2 a3
    refine ⟨by rw [List.cons_append, sgn_no (by omega)]; rfl, .inl ⟨1, .mk 5 a.text a.cls [] a.pos, ?_, ?_⟩⟩
    · rw [List.cons_append, pOne, if_pos a1, List.nil_append, if_neg hk]
    · rw [a2, a3]
      exact .mk (fun e => by cases e) .nil
  | @seq l p hl ho ih =>
    refine main_row (fun _ d ts R ht hS => ?_) (Nat.le_refl 1) (Nat.lt_succ_self 1)
    rw [show pcT (.mk 6 [] 0 l p) = pcR [.sp] 2 true l from rfl] at ht
    rcases (parts_list hS l true ih ho ts ht).1 [] with ⟨f, ms, g1, g2⟩ | ⟨f, x, g⟩
    · refine .inl ⟨f, _, g1, ?_⟩
      have hlen := g2.length
      rw [Nd.trs_length] at hlen
      rw [List.nil_append, rowN, if_neg (by omega)]
      exact same_join rfl hl g2
    · exact .inr ⟨f, x, g⟩
  | @alt l p hl ho ih =>
    have key : ∀ d ts R, ts.map core = cos (pcT (.mk 7 [] 0 l p)) → StopP R → sgnOf R ≠ [47] → ChoR d ts R (.mk 7 [] 0 l p) := by
      intro d ts R ht hS h47
      rw [show pcT (.mk 7 [] 0 l p) = pcR [.sp, .sg 47, .sp] 1 true l from rfl] at ht
      cases l with
      | nil => simp at hl
      | cons n l =>
        have ht2 : ts.map core = cos (pcQ 1 n) ++ cos (pcR [.sp, .sg 47, .sp] 1 false l) := by
          rw [ht, pcR_cons, cos_app, cos_app]
          rfl
        obtain ⟨t1, t2, rfl, h1, h2⟩ := core_app ht2
        obtain ⟨g1, g2⟩ := alts_list (d := d) hS h47 l (fun m h => ih m (List.mem_cons_of_mem _ h)) t2 h2
        have hrow := (ih n List.mem_cons_self).row1 (d := d) h1 g2
        unfold ChoR
        rw [List.append_assoc]
        rcases hrow with ⟨f, m, q1, q2⟩ | ⟨f, x, q⟩
        · rcases g1 [m] with ⟨f2, ms, q3, q4⟩ | ⟨f2, x, q3⟩
          · refine .inl ⟨f + f2 + 1, _, ?_, same_join (ms := m :: ms) rfl hl (by rw [Nd.trs]; exact .cons q2 q4)⟩
            rw [pChoice, pParts_mono q1 (by omega)]
            show pAlts (f + f2) d (t2 ++ R) [m] = _
            rw [pAlts_mono q3 (by omega)]
            rfl
          · refine .inr ⟨f + f2 + 1, x, ?_⟩
            rw [pChoice, pParts_mono q1 (by omega)]
            exact pAlts_mono q3 (by omega)
        · exact .inr ⟨f + 1, x, by rw [pChoice, q]⟩
    have h0 : rankT (Tr.mk 7 [] 0 l p).kind = 0 := rfl
    exact ⟨fun e => by omega, fun e => by omega, fun e => by omega, fun e => by omega, key⟩
  | @post k p x hk ho ih =>
    have e : pcT (.mk k [] 0 [x] p) = pcR [] 4 true [x] ++ [.sg (postB k)] := by rcases hk with rfl | rfl | rfl <;> (rw [pcT]; rfl)
    refine main_suf (fun d ts R ht _ _ => ?_) (by rcases hk with rfl | rfl | rfl <;> rfl)
    rw [e, pcR_cons, pcR_nil, List.append_nil, cos_app] at ht
    obtain ⟨t1, t2, rfl, h1, h2⟩ := core_app ht
    obtain ⟨s, rfl, s1, s2, _⟩ := core_one (show t2.map core = [(5, [postB k], 0)] from h2)
    dsimp only at s1 s2
    have hs : sgnOf (s :: R) = [postB k] := sgn_is s1 s2
    have hf : sufK (sgnOf (s :: R)) ≠ 0 ∧ (k : Int) = (sufK (sgnOf (s :: R)) : Nat) := by rw [hs]; rcases hk with rfl | rfl | rfl <;> exact ⟨by decide, rfl⟩
    have e2 : t1 ++ [s] ++ R = t1 ++ s :: R := by simp
    obtain ⟨q0, q⟩ := ih.one4 (d := d) (R := s :: R) h1 (show s.kind ≠ 2 by omega)
    refine ⟨by rw [e2]; exact q0, ?_⟩
    unfold SufR
    rw [e2]
    rcases q with ⟨f, m, q1, q2⟩ | q
    · refine .inl ⟨f, m, s :: R, q1, ?_, by rw [if_neg hf.1]; rfl⟩
      rw [signed, if_neg hf.1, Nd.tr, ← hf.2]
      exact .mk (fun e => by cases e) (trs_one q2)
    · exact .inr q
  | @pre k p x hk ho ih =>
    have e : pcT (.mk k [] 0 [x] p) = .sg (preB k) :: pcR [] 3 true [x] := by rcases hk with rfl | rfl <;> (rw [pcT]; rfl)
    refine main_part (fun d ts R ht hk2 hsf => ?_) (by rcases hk with rfl | rfl <;> exact Nat.le_refl 2) (by rcases hk with rfl | rfl <;> exact Nat.lt_succ_self 2)
    rw [e, pcR_cons, pcR_nil, List.append_nil] at ht
    obtain ⟨s, t1, rfl, s1, s2, _, h1⟩ := core_cons (show ts.map core = (5, [preB k], 0) :: cos (pcQ 3 x) from ht)
    dsimp only at s1 s2
    have hs : sgnOf (s :: (t1 ++ R)) = [preB k] := sgn_is s1 s2
    have hf : preK (sgnOf (s :: (t1 ++ R))) ≠ 0 ∧ (k : Int) = (preK (sgnOf (s :: (t1 ++ R))) : Nat) := by rw [hs]; rcases hk with rfl | rfl <;> exact ⟨by decide, rfl⟩
    obtain ⟨_, q⟩ := ih.suf3 (d := d) (R := R) h1 hk2 hsf
    unfold PartR
    rw [List.cons_append]
    rcases q with ⟨f, m, R1, q1, q2, q3⟩ | ⟨f, x, q⟩
    · have := part_some (f := f) (d := d) (rs := s :: (t1 ++ R)) (rs2 := R1) (n := m) (by rw [if_neg hf.1]; exact q1)
      rw [q3] at this
      refine .inl ⟨f + 1, _, this, ?_⟩
      rw [signed, if_neg hf.1, Nd.tr, ← hf.2]
      exact .mk (fun e => by cases e) (trs_one q2)
    · exact .inr ⟨f + 1, x, part_err (by rw [if_neg hf.1]; exact q)⟩
end Go.Proofs.YtjlcoldnhbkcgaaGreatDoor
namespace Go.Proofs.YtjlcoldnhbkcgaaGreatDoor
open Go.RowKit

theorem ok_swap {f : Nat} {e : Tok} {S : List Tok} (he : e.kind = 6) (hS : StopT S) {d : Nat} {T T' r : List Tok} {n : Nd} {l l' : List Nd} (hT : NoEnd T) (hc : T.map bareT = T'.map bareT) (hl : SameL false l l') (h : pParts f d (T ++ [e]) l = some (.ok n r)) : ∃ T2 T2' m, r = T2 ++ [e] ∧ NoEnd T2 ∧ pParts f d (T' ++ S) l' = some (.ok m (T2' ++ S)) ∧ T2.map bareT = T2'.map bareT ∧ SameN false n m := by
  obtain ⟨T2, rfl, h2, g⟩ := (swap_all he hS f).parts (d' := d) hT hc (Nat.le_refl _) hl h
  rcases g with ⟨hne, _⟩ | ⟨m, T2', g, h3, h4⟩
  · exact absurd rfl hne
  · exact ⟨T2, T2', m, rfl, h2, g, h3, h4⟩
theorem badE_two {T : List Tok} : badE T ≠ 2 := by
  cases T with
  | nil => decide
  | cons t T => rw [badE]; split <;> decide
/-- An error stays the error. -/
structure Err2 (f : Nat) (e : Tok) (S : List Tok) : Prop where
  choice : ∀ {d x : Nat} {T T' : List Tok}, NoEnd T → T.map bareT = T'.map bareT → pChoice f d (T ++ [e]) = some (.err 2 x) → ∃ x', pChoice f d (T' ++ S) = some (.err 2 x')
  alts : ∀ {d x : Nat} {T T' : List Tok} {l l' : List Nd}, NoEnd T → T.map bareT = T'.map bareT → SameL false l l' → pAlts f d (T ++ [e]) l = some (.err 2 x) → ∃ x', pAlts f d (T' ++ S) l' = some (.err 2 x')
  parts : ∀ {d x : Nat} {T T' : List Tok} {l l' : List Nd}, NoEnd T → T.map bareT = T'.map bareT → SameL false l l' → pParts f d (T ++ [e]) l = some (.err 2 x) → ∃ x', pParts f d (T' ++ S) l' = some (.err 2 x')
  part : ∀ {d x : Nat} {T T' : List Tok}, NoEnd T → T.map bareT = T'.map bareT → pPart f d (T ++ [e]) = some (.err 2 x) → ∃ x', pPart f d (T' ++ S) = some (.err 2 x')
  one : ∀ {d x : Nat} {T T' : List Tok}, NoEnd T → T.map bareT = T'.map bareT → pOne f d (T ++ [e]) = some (.err 2 x) → ∃ x', pOne f d (T' ++ S) = some (.err 2 x')
theorem err2_all {e : Tok} {S : List Tok} (he : e.kind = 6) (hS : StopT S) : ∀ f, Err2 f e S := by
  intro f
  induction f with
  | zero => exact ⟨fun _ _ h => by simp [pChoice] at h, fun _ _ _ h => by simp [pAlts] at h, fun _ _ _ h => by simp [pParts] at h, fun _ _ h => by simp [pPart] at h, fun _ _ h => by simp [pOne] at h⟩
  | succ f ih =>
    refine ⟨fun {d x T T'} hT hc h => ?_, fun {d x T T' l l'} hT hc hl h => ?_, fun {d x T T' l l'} hT hc hl h => ?_, fun {d x T T'} hT hc h => ?_, fun {d x T T'} hT hc h => ?_⟩
    · rw [pChoice] at h
      rw [pChoice]
      cases e1 : pParts f d (T ++ [e]) [] with
      | none => rw [e1] at h; cases h
      | some y =>
        rw [e1] at h
        cases y with
        | err c1 x1 =>
          cases h
          obtain ⟨x', g⟩ := ih.parts hT hc .nil e1
          exact ⟨x', by rw [g]⟩
        | ok n r =>
          obtain ⟨T2, T2', m, rfl, h2, g, h3, h4⟩ := ok_swap he hS hT hc .nil e1
          rw [g]
          exact ih.alts h2 h3 (.cons h4 .nil) h
    · rw [pAlts] at h
      rw [pAlts]
      rcases sgn_bare (S := [e]) (S' := S) hc with ⟨rfl, rfl⟩ | ⟨hne, hs⟩
      · simp only [List.nil_append] at h
        rw [if_neg (end_stop he).sl] at h
        cases h
      · rw [← hs]
        split at h
        · next h47 =>
          rw [if_pos h47]
          obtain ⟨t, t', T1, T1', rfl, rfl, _, _, _, hc1⟩ := (bare_cases hc).resolve_left (fun h => hne h.1)
          simp only [List.cons_append, List.tail_cons] at h ⊢
          cases e1 : pParts f d (T1 ++ [e]) [] with
          | none => rw [e1] at h; cases h
          | some y =>
            rw [e1] at h
            cases y with
            | err c1 x1 =>
              cases h
              obtain ⟨x', g⟩ := ih.parts hT.tail hc1 .nil e1
              exact ⟨x', by rw [g]⟩
            | ok n r =>
              obtain ⟨T2, T2', m, rfl, h2, g, h3, h4⟩ := ok_swap he hS hT.tail hc1 .nil e1
              rw [g]
              exact ih.alts h2 h3 (hl.snoc h4) h
        · cases h
    · rw [pParts] at h
      rw [pParts]
      cases e1 : pPart f d (T ++ [e]) with
      | none => rw [e1] at h; cases h
      | some y =>
        rw [e1] at h
        cases y with
        | err c1 x1 =>
          cases h
          obtain ⟨x', g⟩ := ih.part hT hc e1
          exact ⟨x', by rw [g]⟩
        | ok a r =>
          obtain ⟨T2, rfl, h2, g⟩ := (swap_all he hS f).part (d' := d) hT hc (Nat.le_refl _) e1
          cases a with
          | none => cases h
          | some n =>
            rcases g with ⟨hne, _⟩ | ⟨m, T2', g, h3, h4⟩
            · exact absurd rfl hne
            · cases m with
              | none => exact h4.elim
              | some m =>
                rw [g]
                exact ih.parts h2 h3 (hl.snoc h4) h
    · have hp := pre_bare he hS hc
      obtain ⟨U, U', hU, hcU, eU, eU'⟩ : ∃ U U', NoEnd U ∧ U.map bareT = U'.map bareT ∧ (if preK (sgnOf (T ++ [e])) = 0 then T ++ [e] else (T ++ [e]).tail) = U ++ [e] ∧ (if preK (sgnOf (T' ++ S)) = 0 then T' ++ S else (T' ++ S).tail) = U' ++ S := by
        by_cases h0 : preK (sgnOf (T ++ [e])) = 0
        · exact ⟨T, T', hT, hc, by rw [if_pos h0], by rw [if_pos (by rw [← hp]; exact h0)]⟩
        · rcases bare_cases hc with ⟨rfl, rfl⟩ | ⟨t, t', T1, T1', rfl, rfl, _, _, _, hc1⟩
          · exact absurd (by simpa using (end_stop he).pre) h0
          · exact ⟨T1, T1', hT.tail, hc1, by rw [if_neg h0]; rfl, by rw [if_neg (by rw [← hp]; exact h0)]; rfl⟩
      cases e1 : pOne f d (U ++ [e]) with
      | none => rw [pPart, eU, e1] at h; cases h
      | some y =>
        cases y with
        | err c1 x1 =>
          rw [part_err (by rw [eU]; exact e1)] at h
          cases h
          obtain ⟨x', g⟩ := ih.one hU hcU e1
          exact ⟨x', part_err (by rw [eU']; exact g)⟩
        | ok a r =>
          obtain ⟨T2, rfl, h2, g⟩ := (swap_all he hS f).one (d' := d) hU hcU (Nat.le_refl _) e1
          cases a with
          | some n => rw [part_some (by rw [eU]; exact e1)] at h; cases h
          | none =>
            rw [pPart, eU, e1] at h
            simp only at h
            by_cases h0 : preK (sgnOf (T ++ [e])) = 0
            · rw [if_pos h0] at h; cases h
            · rw [if_neg h0] at h
              rcases g with ⟨hne, _⟩ | ⟨m, T2', g, h3, h4⟩
              · exact absurd rfl hne
              · cases m with
                | some m => exact h4.elim
                | none =>
                  have e2 := Option.some.inj h
                  injection e2 with e3 e4
                  exact absurd e3 badE_two
    · rcases bare_cases hc with ⟨rfl, rfl⟩ | ⟨t, t', T1, T1', rfl, rfl, hk, ht, _, hc1⟩
      · simp only [List.nil_append] at h
        rw [(end_stop he).one] at h
        cases h
      · have hb := kind_behind he hS hc1
        rw [List.cons_append, pOne] at h
        rw [List.cons_append, pOne, ← hk, ← ht]
        split at h
        · split at h <;> cases h
        next h1 =>
        rw [if_neg h1]
        split at h
        · cases h
        next h3 =>
        rw [if_neg h3]
        split at h
        · cases h
        next h4 =>
        rw [if_neg h4]
        split at h
        · cases h
        next h5 =>
        rw [if_neg h5]
        split at h
        · next h6 =>
          rw [if_pos h6]
          by_cases h24 : d = 24
          · rw [if_pos h24] at h
            rw [if_pos h24]
            have e2 := Option.some.inj h
            injection e2 with e3 e4
            exact ⟨_, rfl⟩
          · rw [if_neg h24] at h
            rw [if_neg h24]
            cases e1 : pChoice f (d + 1) (T1 ++ [e]) with
            | none => rw [e1] at h; cases h
            | some y =>
              rw [e1] at h
              cases y with
              | err c1 x1 =>
                cases h
                obtain ⟨x', g⟩ := ih.choice hT.tail hc1 e1
                exact ⟨x', by rw [g]⟩
              | ok n r =>
                obtain ⟨T2, rfl, h2, g⟩ := (swap_all he hS f).choice (d' := d + 1) hT.tail hc1 (Nat.le_refl _) e1
                rcases g with ⟨hne, _⟩ | ⟨m, T2', g, h3', h4'⟩
                · exact absurd rfl hne
                · simp only at h
                  by_cases h41 : sgnOf (T2 ++ [e]) = [41]
                  · rw [if_pos h41] at h; cases h
                  · rw [if_neg h41] at h
                    have e2 := Option.some.inj h
                    injection e2 with e3 e4
                    exact absurd e3 badE_two
        · cases h
end Go.Proofs.YtjlcoldnhbkcgaaGreatDoor
namespace Go.Proofs.YtjlcoldnhbkcgaaGreatDoor
open Go.RowKit

def OkR (r : Rr) : Prop := isName r.name = true ∧ OkT r.body
/-- The pieces of a grammar's text. -/
def pcU (r : Rr) : List Pc := .nm r.name :: .sp :: .ar :: .sp :: (pcT r.body ++ [.nl])
def pcG : List Rr → List Pc
  | [] => []
  | r :: l => pcU r ++ pcG l
def Ru.rr (u : Ru) : Rr := ⟨u.name, u.body.tr, (u.pos : Int)⟩
theorem good_gram : ∀ g : List Rr, (∀ r ∈ g, OkR r) → Good (pcG g) := by
  intro g
  induction g with
  | nil => intro _; exact trivial
  | cons r g ih =>
    intro h
    have hr := h r List.mem_cons_self
    have hg := ih (fun m hm => h m (List.mem_cons_of_mem _ hm))
    have hb : Good (pcT r.body ++ (.nl :: pcG g)) := good_tree hr.2 _ ⟨trivial, fun u e => (by cases e), hg⟩ (by
      intro b x e
      injection e with e1 e2
      subst e1
      rfl)
    show Good (.nm r.name :: .sp :: .ar :: .sp :: ((pcT r.body ++ [.nl]) ++ pcG g))
    rw [List.append_assoc]
    refine ⟨hr.1, fun u e => stop_blank _, trivial, fun u e => (by cases e), trivial, fun u e => (by cases e), trivial, fun u e => (by cases e), hb⟩
theorem rules_list {e : Tok} (he : e.kind = 6) : ∀ (g : List Rr), (∀ r ∈ g, OkR r) → ∀ ts, ts.map core = cos (pcG g) → (StopP (ts ++ [e]) ∧ sgnOf (ts ++ [e]) ≠ [47]) ∧ ∀ acc : List Ru, 0 < acc.length + g.length → acc.length + g.length ≤ 64 →
    (∃ f hs, pRules f (ts ++ [e]) acc = some (.ok (acc ++ hs) [e]) ∧ SameR false g (hs.map Ru.rr)) ∨ ∃ f x, pRules f (ts ++ [e]) acc = some (.err 2 x) := by
  intro g
  induction g with
  | nil =>
    intro _ ts ht
    obtain rfl : ts = [] := List.map_eq_nil_iff.1 ht
    refine ⟨⟨(end_stop he).row, (end_stop he).sl⟩, fun acc h0 _ => .inl ⟨1, [], ?_, .nil⟩⟩
    simp only [List.length_nil, Nat.add_zero] at h0
    rw [List.nil_append, pRules, if_pos ⟨by omega, he⟩, List.append_nil]
  | cons r g ih =>
    intro hr ts ht
    have hok := hr r List.mem_cons_self
    have ht2 : ts.map core = (1, r.name, 0) :: (2, [], 0) :: (cos (pcT r.body) ++ cos (pcG g)) := by
      rw [ht]
      show cos (.nm r.name :: .sp :: .ar :: .sp :: ((pcT r.body ++ [.nl]) ++ pcG g)) = _
      rw [List.append_assoc]
      show (1, r.name, 0) :: (2, [], 0) :: cos (pcT r.body ++ (.nl :: pcG g)) = _
      rw [cos_app]
      rfl
    obtain ⟨a, t0, rfl, a1, a2, _, ht3⟩ := core_cons ht2
    obtain ⟨b, t3, rfl, b1, _, _, ht4⟩ := core_cons ht3
    obtain ⟨t1, t2, rfl, h1, h2⟩ := core_app ht4
    dsimp only at a1 a2 b1
    obtain ⟨⟨g1, g2⟩, g3⟩ := ih (fun m hm => hr m (List.mem_cons_of_mem _ hm)) t2 h2
    have hs : sgnOf (a :: b :: (t1 ++ t2) ++ [e]) = [] := sgn_no (by omega)
    refine ⟨⟨⟨by rw [hs]; rfl, by rw [hs]; rfl, by show a.kind ≠ 2; omega, fun f d => ?_⟩, by rw [hs]; decide⟩, fun acc _ h64 => ?_⟩
    · rw [List.cons_append, pOne, if_pos a1, if_pos (show kindT (b :: (t1 ++ t2) ++ [e]) = 2 from b1)]
    · simp only [List.length_cons] at h64
      have ek : kindT (a :: b :: (t1 ++ t2) ++ [e]) = 1 := a1
      have ek2 : kindT (a :: b :: (t1 ++ t2) ++ [e]).tail = 2 := b1
      have et : (a :: b :: (t1 ++ t2) ++ [e]).tail.tail = t1 ++ (t2 ++ [e]) := by simp
      rcases (main_tree hok.2).cho 0 t1 (t2 ++ [e]) h1 g1 g2 with ⟨f, m, q1, q2⟩ | ⟨f, x, q⟩
      · rcases g3 (acc ++ [⟨r.name, m, a.pos⟩]) (by simp; omega) (by simp; omega) with ⟨f2, hs, q3, q4⟩ | ⟨f2, x, q3⟩
        · refine .inl ⟨f + f2 + 1, ⟨r.name, m, a.pos⟩ :: hs, ?_, ?_⟩
          · rw [pRules, if_neg (by rw [ek]; omega), if_neg (by omega), if_neg (fun h => h ek), if_neg (fun h => h ek2), et, pChoice_mono q1 (by omega)]
            show pRules (f + f2) (t2 ++ [e]) (acc ++ [⟨a.text, m, a.pos⟩]) = _
            rw [a2, pRules_mono q3 (by omega)]
            simp
          · rw [List.map_cons]
            exact .cons q2 (fun e => by cases e) q4
        · refine .inr ⟨f + f2 + 1, x, ?_⟩
          rw [pRules, if_neg (by rw [ek]; omega), if_neg (by omega), if_neg (fun h => h ek), if_neg (fun h => h ek2), et, pChoice_mono q1 (by omega)]
          show pRules (f + f2) (t2 ++ [e]) (acc ++ [⟨a.text, m, a.pos⟩]) = _
          rw [a2]
          exact pRules_mono q3 (by omega)
      · refine .inr ⟨f + 1, x, ?_⟩
        rw [pRules, if_neg (by rw [ek]; omega), if_neg (by omega), if_neg (fun h => h ek), if_neg (fun h => h ek2), et, q]
/-- A grammar's text is read as the grammar, or there are too many parentheses. -/
theorem gram_reads {g : List Rr} (h : ∀ r ∈ g, OkR r) (h0 : 0 < g.length) (h64 : g.length ≤ 64) (h8 : (txs (pcG g)).length ≤ 8192) :
    (∃ hs, Reads (txs (pcG g)) (.inr hs) ∧ SameR false g (hs.map Ru.rr)) ∨ ∃ x : Int, Reads (txs (pcG g)) (.inl (2, x)) := by
  obtain ⟨r, h1, h2⟩ := good_lexed (good_gram g h) h8
  unfold Reads
  rw [h1]
  rcases (rules_list (e := ⟨6, [], 0, (txs (pcG g)).length⟩) rfl g h r h2).2 [] (by simpa using h0) (by simpa using h64) with ⟨f, hs, q1, q2⟩ | ⟨f, x, q⟩
  · exact .inl ⟨hs, ⟨f, .inr ⟨_, _, q1, rfl⟩⟩, q2⟩
  · exact .inr ⟨x, ⟨f, .inl ⟨_, _, q, rfl⟩⟩⟩
end Go.Proofs.YtjlcoldnhbkcgaaGreatDoor
namespace Go.Proofs.YtjlcoldnhbkcgaaGreatDoor
open Go.RowKit

mutual
/-- How large a tree is: its nodes and its letters. -/
def Tr.bulk : Tr → Nat
  | .mk _ t _ l _ => t.length + 1 + Tr.bulks l
def Tr.bulks : List Tr → Nat
  | [] => 0
  | n :: l => n.bulk + Tr.bulks l
end
theorem Tr.bulks_snoc (l : List Tr) (n : Tr) : Tr.bulks (l ++ [n]) = Tr.bulks l + n.bulk := by
  induction l with
  | nil => simp [Tr.bulks]
  | cons m l ih => simp only [List.cons_append, Tr.bulks, ih]; omega
/-- A node alone. -/
def okH (k : Int) (t : List UInt8) (c : BitVec 256) (n : Nat) : Bool :=
  (k == 3 || c == 0) && (if k = 5 then isName t && n == 0 else if k = 2 then decide (t.length ≤ 255) && n == 0 else if k = 1 ∨ k = 4 ∨ k = 3 then t.isEmpty && n == 0 else if k = 6 ∨ k = 7 then t.isEmpty && decide (1 < n) else if k = 8 ∨ k = 9 ∨ k = 10 ∨ k = 11 ∨ k = 12 then t.isEmpty && n == 1 else false)
mutual
def okT : Tr → Bool
  | .mk k t c l _ => okH k t c l.length && okL l
def okL : List Tr → Bool
  | [] => true
  | n :: l => okT n && okL l
end
theorem okL_all {l : List Tr} : okL l = true ↔ ∀ n ∈ l, okT n = true := by
  induction l with
  | nil => simp [okL]
  | cons n l ih => simp [okL, ih]
end Go.Proofs.YtjlcoldnhbkcgaaGreatDoor
namespace Go.Proofs.YtjlcoldnhbkcgaaGreatDoor
open Go.RowKit

theorem len_one {l : List Tr} (h : l.length = 1) : ∃ x, l = [x] := by
  match l, h with
  | [x], _ => exact ⟨x, rfl⟩
theorem okT_ok : ∀ (n : Tr), okT n = true → OkT n
  | .mk k t c l p, h => by
    rw [okT, Bool.and_eq_true] at h
    obtain ⟨h1, h2⟩ := h
    have ih : ∀ m ∈ l, OkT m := fun m hm => okT_ok m (okL_all.1 h2 m hm)
    rw [okH, Bool.and_eq_true] at h1
    obtain ⟨hc, h1⟩ := h1
    have hc0 : k ≠ 3 → c = 0 := fun hk => by
      rw [Bool.or_eq_true] at hc
      rcases hc with e | e
      · exact absurd (eq_of_beq e) hk
      · exact eq_of_beq e
    split at h1
    · next hk =>
      subst hk
      rw [Bool.and_eq_true] at h1
      obtain rfl : l = [] := List.eq_nil_of_length_eq_zero (eq_of_beq h1.2)
      obtain rfl := hc0 (by decide)
      exact .ref h1.1
    split at h1
    · next hk =>
      subst hk
      rw [Bool.and_eq_true] at h1
      obtain rfl : l = [] := List.eq_nil_of_length_eq_zero (eq_of_beq h1.2)
      obtain rfl := hc0 (by decide)
      exact .lit (of_decide_eq_true h1.1)
    split at h1
    · next hk =>
      rw [Bool.and_eq_true] at h1
      obtain rfl : l = [] := List.eq_nil_of_length_eq_zero (eq_of_beq h1.2)
      obtain rfl : t = [] := List.isEmpty_iff.1 h1.1
      rcases hk with rfl | rfl | rfl
      · obtain rfl := hc0 (by decide); exact .empty
      · obtain rfl := hc0 (by decide); exact .any
      · exact .set
    split at h1
    · next hk =>
      rw [Bool.and_eq_true] at h1
      obtain rfl : t = [] := List.isEmpty_iff.1 h1.1
      rcases hk with rfl | rfl
      · obtain rfl := hc0 (by decide); exact .seq (of_decide_eq_true h1.2) ih
      · obtain rfl := hc0 (by decide); exact .alt (of_decide_eq_true h1.2) ih
    split at h1
    · next hk =>
      rw [Bool.and_eq_true] at h1
      obtain rfl : t = [] := List.isEmpty_iff.1 h1.1
      obtain ⟨x, rfl⟩ := len_one (eq_of_beq h1.2)
      have hx := ih x List.mem_cons_self
      rcases hk with rfl | rfl | rfl | rfl | rfl
      · obtain rfl := hc0 (by decide); exact .post (.inl rfl) hx
      · obtain rfl := hc0 (by decide); exact .post (.inr (.inl rfl)) hx
      · obtain rfl := hc0 (by decide); exact .post (.inr (.inr rfl)) hx
      · obtain rfl := hc0 (by decide); exact .pre (.inl rfl) hx
      · obtain rfl := hc0 (by decide); exact .pre (.inr rfl) hx
    · cases h1
theorem ok_okT {n : Tr} (h : OkT n) : okT n = true := by
  induction h with
  | empty => rfl
  | lit h => simp [okT, okH, okL, h]
  | set => simp [okT, okH, okL]
  | any => rfl
  | ref h => simp [okT, okH, okL, h]
  | seq h _ ih => simp [okT, okH, h, okL_all.2 ih]
  | alt h _ ih => simp [okT, okH, h, okL_all.2 ih]
  | post hk _ ih => rcases hk with rfl | rfl | rfl <;> simp [okT, okH, okL, ih]
  | pre hk _ ih => rcases hk with rfl | rfl <;> simp [okT, okH, okL, ih]
/-- A rule, a grammar. -/
def okU (r : Rr) : Bool := isName r.name && okT r.body
def okG (g : List Rr) : Bool := decide (1 ≤ g.length) && decide (g.length ≤ 64) && g.all okU
theorem okU_ok {r : Rr} (h : okU r = true) : OkR r := by
  rw [okU, Bool.and_eq_true] at h
  exact ⟨h.1, okT_ok _ h.2⟩
theorem ok_okU {r : Rr} (h : OkR r) : okU r = true := by rw [okU, h.1, ok_okT h.2]; rfl
/-- The text of a tree, of a grammar. -/
def txT (n : Tr) : List UInt8 := txs (pcT n)
def txQ (r : Nat) (n : Tr) : List UInt8 := txs (pcQ r n)
def txR (sep : List UInt8) (r : Nat) : List Tr → List UInt8
  | [] => []
  | n :: l => sep ++ (txQ r n ++ txR sep r l)
theorem txs_row (sep : List Pc) (r : Nat) (l : List Tr) : txs (pcR sep r false l) = txR (txs sep) r l := by
  induction l with
  | nil => rw [pcR_nil]; rfl
  | cons n l ih => rw [pcR_cons, txs_app, txs_app, ih]; rfl
theorem txs_first (sep : List Pc) (r : Nat) (n : Tr) (l : List Tr) : txs (pcR sep r true (n :: l)) = txQ r n ++ txR (txs sep) r l := by
  rw [pcR_cons, txs_app, txs_app, txs_row]; rfl
theorem txR_snoc (sep : List UInt8) (r : Nat) (l : List Tr) (n : Tr) : txR sep r (l ++ [n]) = txR sep r l ++ (sep ++ txQ r n) := by
  induction l with
  | nil => simp [txR]
  | cons m l ih => simp [txR, ih]
theorem txQ_in {r : Nat} {n : Tr} (h : r ≤ rankT n.kind) : txQ r n = txT n := by rw [txQ, pcQ, paren, if_pos h]; rfl
theorem txQ_out {r : Nat} {n : Tr} (h : ¬ r ≤ rankT n.kind) : txQ r n = 40 :: (txT n ++ [41]) := by
  rw [txQ, pcQ, paren, if_neg h]
  show 40 :: txs (pcT n ++ [.sg 41]) = _
  rw [txs_app]
  rfl
def txU (r : Rr) : List UInt8 := r.name ++ ([32, 60, 45, 32] ++ (txT r.body ++ [10]))
def txG : List Rr → List UInt8
  | [] => []
  | r :: l => txU r ++ txG l
theorem txs_gram (g : List Rr) : txs (pcG g) = txG g := by
  induction g with
  | nil => rfl
  | cons r g ih =>
    rw [pcG, txs_app, ih, txG]
    show (r.name ++ (32 :: 60 :: 45 :: 32 :: txs (pcT r.body ++ [.nl]))) ++ txG g = _
    rw [txs_app]
    rfl
end Go.Proofs.YtjlcoldnhbkcgaaGreatDoor
