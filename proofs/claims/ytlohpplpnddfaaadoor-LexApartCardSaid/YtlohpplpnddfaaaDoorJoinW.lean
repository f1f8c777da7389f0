/- The walks of LexJoins and LexNotes. -/
import Derived.Test.YtlohpplpnddfaaaDoorLexF
import Derived.Test.YtlohpplpnddfaaaDoorTokS
import Derived.Test.YtlohpplpnddfaaaDoorJoinP
namespace Go.Proofs.YtlohpplpnddfaaaDoor
open Go.RowKit Go.Sort

/-- append(x, y...) where x is the call's own and y holds nothing. -/
theorem wpList_append_own_zero {P : Program} {w : World} {ops : Array Oper} {rest : List Oper} {o : Oper} {a : Act} {Q : Exit → Act → World → Prop} (hgd : o.guard = none) (s x : Operand) (t : TypeId)
    (ho : o.op = .call { callee := .builtin .append, args := #[s, x], argTypes := #[t, t] })
    (base : Nat) (e : TypeId) (i : TypeInfo) (size : Nat) (ht : P.underlying t = some (.slice e)) (hi : P.info? e = some i)
    (v : Value) (n : Nat) (xs : List Value) (ad : Addr) (c : Nat) (hs : a.eval s = v) (hown : w.ownsRow base e size v n xs) (hx : a.eval x = .slice (some ad) 0 c)
    (h : wpList P ops Q rest (a.put o.dst v) w) : wpList P ops Q (o :: rest) a w := by
  refine wpList_plain hgd fun K hK => ?_
  have hrun : (Builtin.append_ #[t, t] o.type #[v, .slice (some ad) 0 c]).run P w = .ok v w := by
    rcases hown.2 with ⟨rfl, rfl⟩ | ⟨g, cap, cur, rfl, _, _, hnc, _⟩
    · simp [Builtin.append_, run_underlying ht, sizeOf, typeInfo, hi, Builtin.lenOf, Builtin.firstCells, loadCells, loadCellsFrom]
    · simp [Builtin.append_, run_underlying ht, sizeOf, typeInfo, hi, Builtin.lenOf, Builtin.firstCells, hnc, storeCells, loadCells, loadCellsFrom]
  unfold Oper.wp
  simp [execOp, ho, resolve, invoke, builtin, hs, hx, hrun, Result.andThen]
  exact hK _ _ h
theorem lexed_ends {s : List UInt8} {l : List Tok} (h : lexed s = .inr l) : ∃ a, l = a ++ [⟨6, [], 0, s.length⟩] := by
  obtain ⟨h1, h2⟩ := lexed_inr h
  obtain ⟨a', g', e1, e2, e3⟩ := toks_go_ext (x := []) (g := 2 * s.length + 4) h2 (by omega) (by simp; omega)
  exact ⟨a', e1⟩
theorem bl_add (A B : ByteArray) : bl (A ++ B) = bl A ++ bl B := by simp [bl, ByteArray.data_append]
theorem toksGo_len {s : List UInt8} : ∀ {f a : Nat} {l r : List Tok}, toksGo s f a l = .inr r → a ≤ s.length → r.length + a ≤ l.length + s.length + 1 := by
  intro f
  induction f with
  | zero => intro a l r h; cases h
  | succ f ih =>
    intro a l r h ha
    rw [toksGo] at h
    split at h
    · have e := Sum.inr.inj h
      subst e
      simp
      omega
    split at h
    · next h1 h35 =>
      have b := noteEnd_bd (s := s) (a := a) (by omega) (by omega)
      have := ih h b.2
      omega
    split at h
    · have := ih h (by omega)
      omega
    split at h
    · cases h
    · next h1 _ _ t n e =>
      have b := tokAt_bd (by omega) e
      have := ih h b.2.1
      simp at this
      omega
theorem lexed_len {s : List UInt8} {l : List Tok} (h : lexed s = .inr l) : l.length ≤ s.length + 1 ∧ s.length ≤ 8192 := by
  obtain ⟨h1, h2⟩ := lexed_inr h
  have := toksGo_len h2 (by omega)
  simp at this
  omega
theorem wrap_len {n : Nat} (h : n ≤ 8192) : wrap64 (n : Int) = n := by unfold wrap64; omega
theorem len_in {n c : Nat} (h : n + 1 ≤ c) : (0 : Int) ≤ (n : Int) ∧ (n : Int) ≤ (c : Int) := by omega
theorem add_at (g j : Nat) : (⟨g, 0, none⟩ : Addr).add j = ⟨g, j, none⟩ := by unfold Addr.add; split <;> simp_all
theorem tok_news {w : World} {B g cap : Nat} {a b : List Tok} (h : w.ownsRow B 53 7 (.slice (some ⟨g, 0, none⟩) (a ++ b).length cap) (a ++ b).length (tokCells (a ++ b))) : ∀ j u, (tokCells a)[j]? = some u → w.cell? ((⟨g, 0, none⟩ : Addr).add j) = some u := fun j u hu => by
  have hj : j < (tokCells a).length := (List.getElem?_eq_some_iff.1 hu).1
  have hjl := tokCells_len a
  rw [add_at, h.cellAt j (by rw [List.length_append]; omega), tokCells_append, List.getElem?_append_left hj, hu]
theorem tok_one : ∀ l : List Tok, ∀ u ∈ tokCells l, u.oneCell' = true := by
  intro l
  induction l with
  | nil => intro u hu; cases hu
  | cons t l ih =>
    intro u hu
    rw [tokCells, List.mem_append] at hu
    rcases hu with hu | hu
    · simp only [tokC, List.mem_cons, List.not_mem_nil, or_false] at hu
      rcases hu with rfl | rfl | rfl | rfl | rfl | rfl | rfl <;> rfl
    · exact ih u hu
theorem toksGo_pos {s : List UInt8} : ∀ {f a : Nat} {l r : List Tok}, toksGo s f a l = .inr r → a ≤ s.length → (∀ t ∈ l, t.pos ≤ s.length) → ∀ t ∈ r, t.pos ≤ s.length := by
  intro f
  induction f with
  | zero => intro a l r h; cases h
  | succ f ih =>
    intro a l r h ha hl
    rw [toksGo] at h
    split at h
    · have e := Sum.inr.inj h
      subst e
      intro t ht
      rw [List.mem_append] at ht
      rcases ht with ht | ht
      · exact hl t ht
      · simp at ht; subst ht; exact Nat.le_refl _
    split at h
    · next h1 h35 =>
      have b := noteEnd_bd (s := s) (a := a) (by omega) (by omega)
      exact ih h b.2 hl
    split at h
    · exact ih h (by omega) hl
    split at h
    · cases h
    · next h1 _ _ t n e =>
      have b := tokAt_bd (by omega) e
      refine ih h b.2.1 ?_
      intro u hu
      rw [List.mem_append] at hu
      rcases hu with hu | hu
      · exact hl u hu
      · simp at hu; subst hu; omega
theorem lexed_pos {s : List UInt8} {l : List Tok} (h : lexed s = .inr l) : ∀ t ∈ l, t.pos ≤ s.length := by
  obtain ⟨h1, h2⟩ := lexed_inr h
  exact toksGo_pos h2 (by omega) (fun t ht => by simp at ht)
theorem join_step {w : World} {B m k z : Nat} {v : Value} {la lb : List Tok} {p : Tok} {x : Int} (hp : lb[k]? = some p) (hx : x = ((z + 1 + p.pos : Nat) : Int))
    (h : w.ownsRow B 53 7 v (m + k + 1) (tokCells (la ++ (lb.take k).map (shTok (z + 1))) ++ [.int .i64 (p.kind : Int), .string (mkS p.text), .int .u64 (wd p.cls 0), .int .u64 (wd p.cls 1), .int .u64 (wd p.cls 2), .int .u64 (wd p.cls 3), .int .i64 x])) :
    w.ownsRow B 53 7 v (m + (k + 1)) (tokCells (la ++ (lb.take (k + 1)).map (shTok (z + 1)))) := by
  subst hx
  rw [List.take_add_one, hp, List.map_append, ← List.append_assoc, tokCells_append]
  exact h
theorem owns_cap {w : World} {base : Nat} {e : TypeId} {size g n cap : Nat} {xs : List Value} (h : w.ownsRow base e size (.slice (some ⟨g, 0, none⟩) n cap) n xs) : n ≤ cap := by
  rcases h.2 with ⟨h1, _⟩ | ⟨g1, cap1, cur, h1, _, _, h2, _⟩
  · cases h1
  · cases h1; exact h2
set_option maxRecDepth 100000 in
set_option maxHeartbeats 3200000 in
theorem joins_any (S T : ByteArray) (w : World) (hg : Laid w) (hs : S.size ≤ 140737488351232) (ht : T.size ≤ 140737488351232) : Calls Tryd.prog 7 #[.string S, .string T] w (Ans (.bool true) w) := by
  have hls := bl_length S
  have hlt := bl_length T
  have HL := Lib.hid hg
  have HL1 := Lib.hid (fun (W : World) (h : Below w.heap.size w W) => HL.out.below h HL.out.pos)
  clear hg
  by_cases hS : 8192 < S.size
  · have d1 : decide ((8192 : Int) < S.size) = true := by simp; omega
    go_enter Tryd.func7, Tryd.ntmps7
    repeat (first | go_values | go_skip | go_guarded | go_step | go_upon)
    refine (small3_any _ HL.out).mono ?_
    rintro e w1 ⟨rfl, hb1⟩
    obtain ⟨hc1, hf1⟩ := bcell hb1
    have hz1 := hb1.size
    try simp at hz1
    dsimp only
    repeat (first | go_values | go_skip | go_guarded | go_step | go_upon)
    go_ret
    exact ⟨rfl, (by repeat (first | exact Below.refl _ _ | assumption | refine bal ?_ _ | refine bdr ?_ | refine bdrn ?_ _ | (refine bset ?_ (by first | exact Nat.le_refl _ | (simp; done) | (simp; omega) | omega) _) | refine bstep ?_ (by assumption)))⟩
  have d1 : decide ((8192 : Int) < S.size) = false := by simp; omega
  by_cases hT : 8192 < T.size
  · have d2 : decide ((8192 : Int) < T.size) = true := by simp; omega
    go_enter Tryd.func7, Tryd.ntmps7
    repeat (first | go_values | go_skip | go_guarded | go_step | go_upon)
    refine (small3_any _ HL.out).mono ?_
    rintro e w1 ⟨rfl, hb1⟩
    obtain ⟨hc1, hf1⟩ := bcell hb1
    have hz1 := hb1.size
    try simp at hz1
    dsimp only
    repeat (first | go_values | go_skip | go_guarded | go_step | go_upon)
    go_ret
    exact ⟨rfl, (by repeat (first | exact Below.refl _ _ | assumption | refine bal ?_ _ | refine bdr ?_ | refine bdrn ?_ _ | (refine bset ?_ (by first | exact Nat.le_refl _ | (simp; done) | (simp; omega) | omega) _) | refine bstep ?_ (by assumption)))⟩
  have d2 : decide ((8192 : Int) < T.size) = false := by simp; omega
  have hs2 : S.size ≤ 140737488355328 := by omega
  have ht2 : T.size ≤ 140737488355328 := by omega
  cases hA : lexed (bl S) with
  | inl ea =>
    have HA := Lib.hid hA
    cases hB : lexed (bl T) with
    | inl eb =>
      have HB := Lib.hid hB
      clear hA hB
      go_enter Tryd.func7, Tryd.ntmps7
      repeat (first | go_values | go_skip | go_guarded | go_step | go_upon)
      refine (small3_any _ HL.out).mono ?_
      rintro e w1 ⟨rfl, hb1⟩
      obtain ⟨hc1, hf1⟩ := bcell hb1
      have hz1 := hb1.size
      try simp at hz1
      dsimp only
      repeat (first | go_values | go_skip | go_guarded | go_step | go_upon)
      refine (lexed_no S _ (HL1.out _ (by repeat (first | exact Below.refl _ _ | assumption | refine bal ?_ _ | refine bdr ?_ | refine bdrn ?_ _ | (refine bset ?_ (by first | exact Nat.le_refl _ | (simp; done) | (simp; omega) | omega) _) | refine bstep ?_ (by assumption)))) hs2 HA.out).mono ?_
      rintro e w2 ⟨⟨p, rfl, _, _⟩, hb2⟩
      dsimp only
      repeat (first | go_values | go_skip | go_guarded | go_step | go_upon)
      refine (lexed_no T _ (HL1.out _ (by repeat (first | exact Below.refl _ _ | assumption | refine bal ?_ _ | refine bdr ?_ | refine bdrn ?_ _ | (refine bset ?_ (by first | exact Nat.le_refl _ | (simp; done) | (simp; omega) | omega) _) | refine bstep ?_ (by assumption)))) ht2 HB.out).mono ?_
      rintro e w3 ⟨⟨p3, rfl, _, _⟩, hb3⟩
      dsimp only
      repeat (first | go_values | go_skip | go_guarded | go_step | go_upon)
      go_ret
      exact ⟨rfl, (by repeat (first | exact Below.refl _ _ | assumption | refine bal ?_ _ | refine bdr ?_ | refine bdrn ?_ _ | (refine bset ?_ (by first | exact Nat.le_refl _ | (simp; done) | (simp; omega) | omega) _) | refine bstep ?_ (by assumption)))⟩
    | inr lb =>
      have HB := Lib.hid hB
      clear hA hB
      go_enter Tryd.func7, Tryd.ntmps7
      repeat (first | go_values | go_skip | go_guarded | go_step | go_upon)
      refine (small3_any _ HL.out).mono ?_
      rintro e w1 ⟨rfl, hb1⟩
      obtain ⟨hc1, hf1⟩ := bcell hb1
      have hz1 := hb1.size
      try simp at hz1
      dsimp only
      repeat (first | go_values | go_skip | go_guarded | go_step | go_upon)
      refine (lexed_no S _ (HL1.out _ (by repeat (first | exact Below.refl _ _ | assumption | refine bal ?_ _ | refine bdr ?_ | refine bdrn ?_ _ | (refine bset ?_ (by first | exact Nat.le_refl _ | (simp; done) | (simp; omega) | omega) _) | refine bstep ?_ (by assumption)))) hs2 HA.out).mono ?_
      rintro e w2 ⟨⟨p, rfl, _, _⟩, hb2⟩
      dsimp only
      repeat (first | go_values | go_skip | go_guarded | go_step | go_upon)
      refine (lexed_ok T _ (HL1.out _ (by repeat (first | exact Below.refl _ _ | assumption | refine bal ?_ _ | refine bdr ?_ | refine bdrn ?_ _ | (refine bset ?_ (by first | exact Nat.le_refl _ | (simp; done) | (simp; omega) | omega) _) | refine bstep ?_ (by assumption)))) HB.out).mono ?_
      rintro e w3 ⟨v3, rfl, _, hb3⟩
      dsimp only
      repeat (first | go_values | go_skip | go_guarded | go_step | go_upon)
      go_ret
      exact ⟨rfl, (by repeat (first | exact Below.refl _ _ | assumption | refine bal ?_ _ | refine bdr ?_ | refine bdrn ?_ _ | (refine bset ?_ (by first | exact Nat.le_refl _ | (simp; done) | (simp; omega) | omega) _) | refine bstep ?_ (by assumption)))⟩
  | inr la =>
    obtain ⟨la', rfl⟩ := lexed_ends hA
    have hA2 := lexed_inr hA
    have HA := Lib.hid hA
    clear hA
    have g1 : decide ((0 : Int) < (la'.length + 1 : Nat)) = true := by simp
    have g2 : (((la'.length + 1 : Nat) : Int) == 0) = false := by simp; omega
    cases hB : lexed (bl T) with
    | inl eb =>
      have HB := Lib.hid hB
      clear hB
      go_enter Tryd.func7, Tryd.ntmps7
      repeat (first | go_values | go_skip | go_guarded | go_step | go_upon)
      refine (small3_any _ HL.out).mono ?_
      rintro e w1 ⟨rfl, hb1⟩
      obtain ⟨hc1, hf1⟩ := bcell hb1
      have hz1 := hb1.size
      try simp at hz1
      dsimp only
      repeat (first | go_values | go_skip | go_guarded | go_step | go_upon)
      refine (lexed_ok S _ (HL1.out _ (by repeat (first | exact Below.refl _ _ | assumption | refine bal ?_ _ | refine bdr ?_ | refine bdrn ?_ _ | (refine bset ?_ (by first | exact Nat.le_refl _ | (simp; done) | (simp; omega) | omega) _) | refine bstep ?_ (by assumption)))) HA.out).mono ?_
      rintro e w2 ⟨v, rfl, hown, hb2⟩
      obtain ⟨g, cap, hv, _⟩ := hown.form (by simp)
      subst hv
      clear hown
      dsimp only [List.length_append, List.length]
      repeat (first | go_values | go_skip | go_guarded | go_step | go_upon)
      refine (lexed_no T _ (HL1.out _ (by repeat (first | exact Below.refl _ _ | assumption | refine bal ?_ _ | refine bdr ?_ | refine bdrn ?_ _ | (refine bset ?_ (by first | exact Nat.le_refl _ | (simp; done) | (simp; omega) | omega) _) | refine bstep ?_ (by assumption)))) ht2 HB.out).mono ?_
      rintro e w3 ⟨⟨p3, rfl, _, _⟩, hb3⟩
      dsimp only
      repeat (first | go_values | go_skip | go_guarded | go_step | go_upon)
      go_ret
      exact ⟨rfl, (by repeat (first | exact Below.refl _ _ | assumption | refine bal ?_ _ | refine bdr ?_ | refine bdrn ?_ _ | (refine bset ?_ (by first | exact Nat.le_refl _ | (simp; done) | (simp; omega) | omega) _) | refine bstep ?_ (by assumption)))⟩
    | inr lb =>
      have hB2 := lexed_inr hB
      obtain ⟨lb', hlb⟩ := lexed_ends hB
      have HB := Lib.hid hB
      clear hB
      have hn : 0 < lb.length := by rw [hlb]; simp
      clear hlb
      by_cases h8 : S.size + T.size + 1 ≤ 8192
      · have hbz : bl (S ++ ⟨#[10]⟩ ++ T) = bl S ++ 10 :: bl T := by rw [bl_add, bl_add, show bl ⟨#[10]⟩ = [10] from rfl]; simp
        have hzl : (S ++ ⟨#[10]⟩ ++ T).size = S.size + T.size + 1 := by rw [← bl_length, hbz]; simp; omega
        obtain ⟨a', e1, e2⟩ := toks_join hA2.2 hB2.2
        obtain ⟨e3, _⟩ := List.append_inj' e1 rfl
        subst e3
        rw [← hbz] at e2
        have HT := Lib.hid (lexed_toks (by rw [bl_length]; omega) e2)
        have lA := lexed_len HA.out
        have lB := lexed_len HB.out
        have lL := lexed_len HT.out
        simp only [List.length_append, List.length_cons, List.length_nil, List.length_map] at lA lL
        obtain ⟨i0, iH, iz, is, ib⟩ := info_parts info_tok
        have d3 : decide ((8192 : Int) < (S.size : Int) + T.size + 1) = false := by simp; omega
        have hle : la'.length ≤ 8192 := by omega
        clear e1 e2 hA2 hB2
        go_enter Tryd.func7, Tryd.ntmps7
        repeat (first | go_values | go_skip | go_guarded | go_step | go_upon)
        refine (small3_any _ HL.out).mono ?_
        rintro e w1 ⟨rfl, hb1⟩
        obtain ⟨hc1, hf1⟩ := bcell hb1
        have hz1 := hb1.size
        try simp at hz1
        dsimp only
        repeat (first | go_values | go_skip | go_guarded | go_step | go_upon)
        refine (lexed_ok S _ (HL1.out _ (by repeat (first | exact Below.refl _ _ | assumption | refine bal ?_ _ | refine bdr ?_ | refine bdrn ?_ _ | (refine bset ?_ (by first | exact Nat.le_refl _ | (simp; done) | (simp; omega) | omega) _) | refine bstep ?_ (by assumption)))) HA.out).mono ?_
        rintro e w2 ⟨v, rfl, hownA, hb2⟩
        obtain ⟨ga, ca, hv, _⟩ := hownA.form (by simp)
        subst hv
        dsimp only [List.length_append, List.length]
        repeat (first | go_values | go_skip | go_guarded | go_step | go_upon)
        refine (lexed_ok T _ (HL1.out _ (by repeat (first | exact Below.refl _ _ | assumption | refine bal ?_ _ | refine bdr ?_ | refine bdrn ?_ _ | (refine bset ?_ (by first | exact Nat.le_refl _ | (simp; done) | (simp; omega) | omega) _) | refine bstep ?_ (by assumption)))) HB.out).mono ?_
        rintro e w3 ⟨v3, rfl, hownB, hb3⟩
        obtain ⟨gb, cb, hv, _⟩ := hownB.form (by omega)
        subst hv
        dsimp only
        repeat (first | go_values | go_skip | go_guarded | go_step | go_upon)
        refine (lexed_ok _ _ (HL1.out _ (by repeat (first | exact Below.refl _ _ | assumption | refine bal ?_ _ | refine bdr ?_ | refine bdrn ?_ _ | (refine bset ?_ (by first | exact Nat.le_refl _ | (simp; done) | (simp; omega) | omega) _) | refine bstep ?_ (by assumption)))) HT.out).mono ?_
        rintro e w4 ⟨v4, rfl, hownL, hb4⟩
        dsimp only
        have k1 := @wrap_len
        have hcA := owns_cap hownA
        simp only [List.length_append, List.length_cons, List.length_nil] at hcA
        have k2 : (0 : Int) ≤ la'.length ∧ (la'.length : Int) ≤ ca := by omega
        have hownA4 := owns_below (owns_below hownA hb3) hb4
        have hownB4 := owns_below hownB hb4
        clear hownA hownB
        have NEWS := Lib.hid (tok_news hownA4)
        repeat (first | (at_builtin; refine wpList_append_own _ rfl _ _ 49 rfl w4.heap.size 53 i0 _ 7 64 Tryd.underlying49 iH iz is ib rfl (by decide) _ _ _ rfl (World.ownsRow_nil _ _ _ _) ⟨ga, 0, none⟩ la'.length _ (tokCells la') rfl (tokCells_len la') NEWS.out ?c2 ?c3 ?c4 ?c5 ?c6) | go_values | go_skip | go_guarded | go_step | go_upon)
        case c2 => exact tok_one la'
        case c3 => unfold maxLen; omega
        case c4 => omega
        case c5 => exact Nat.le_refl _
        case c6 =>
          intro v5 w5 hown5 hgr5 _
          have hb5 : Below w4.heap.size w4 w5 := below_grown (Below.refl _ _) hgr5 (fun k hk => by cases hk)
          have HT5 := Lib.hid hown5
          clear hown5 hgr5 NEWS
          repeat (first | go_values | go_skip | go_guarded | go_step | go_upon)
          go_loopw [12, 13] (fun v t wr => ∃ k : Nat, t = .int .i64 (k : Int) ∧ k ≤ lb.length ∧ wr.ownsRow w4.heap.size 53 7 v (la'.length + k) (tokCells (la' ++ (lb.take k).map (shTok ((bl S).length + 1)))) ∧ Below w4.heap.size w4 wr) (fun _ t _ => lb.length - (intOf t).toNat)
          case atStart => exact ⟨0, rfl, Nat.zero_le _, by simpa using HT5.out, hb5⟩
          case round =>
            obtain ⟨k, rfl, hk, hown, hb⟩ := hrel
            have oB := owns_below hownB4 hb
            rcases Nat.lt_or_ge k lb.length with hlt | hge
            · obtain ⟨p, hp⟩ : ∃ p, lb[k]? = some p := ⟨lb[k], List.getElem?_eq_getElem hlt⟩
              have hpp := lexed_pos HB.out p (List.mem_of_getElem? hp)
              obtain ⟨b0, b1, b2, b3, b4, b5, b6⟩ := tok_at oB rfl hp
              have k5 : IntKind.i64.wrap ((p.pos : Int) + (S.size : Int)) = (p.pos : Int) + (S.size : Int) := by rw [IntKind.wrap_i64]; omega
              have k6 : IntKind.i64.wrap ((p.pos : Int) + (S.size : Int) + 1) = (p.pos : Int) + (S.size : Int) + 1 := by rw [IntKind.wrap_i64]; omega
              have HO := Lib.hid hown
              have HN := Lib.hid (fun (o : Obj) => new_two wr o (.cells #[.int .i64 (p.kind : Int), .string (mkS p.text), .int .u64 (wd p.cls 0), .int .u64 (wd p.cls 1), .int .u64 (wd p.cls 2), .int .u64 (wd p.cls 3), .int .i64 ((p.pos : Int) + (S.size : Int) + 1)] 53))
              clear hown
              repeat (first | (at_builtin; refine wpList_append_own _ rfl _ _ 49 rfl w4.heap.size 53 i0 _ 7 64 Tryd.underlying49 iH iz is ib rfl (by decide) _ _ _ rfl ((HO.out.alloc _).alloc _) ⟨wr.heap.size + 1, 0, none⟩ 1 1 [.int .i64 (p.kind : Int), .string (mkS p.text), .int .u64 (wd p.cls 0), .int .u64 (wd p.cls 1), .int .u64 (wd p.cls 2), .int .u64 (wd p.cls 3), .int .i64 ((p.pos : Int) + (S.size : Int) + 1)] rfl rfl (World.news_of_block (cs := #[.int .i64 (p.kind : Int), .string (mkS p.text), .int .u64 (wd p.cls 0), .int .u64 (wd p.cls 1), .int .u64 (wd p.cls 2), .int .u64 (wd p.cls 3), .int .i64 ((p.pos : Int) + (S.size : Int) + 1)]) (t := 53) (fr := (0, 0)) (HN.out _)) ?c2 ?c3 ?c4 ?c5 ?c6) | go_values | go_skip | go_guarded | go_step | go_upon)
              case c2 => simp [Value.oneCell']
              case c3 => unfold maxLen; omega
              case c4 => omega
              case c5 => simp; have := hb.size; omega
              case c6 =>
                intro v6 w6 hown6 hgr6 _
                have hb6 : Below w4.heap.size w4 w6 := below_grown (bal (bal hb _) _) hgr6 (fun k hk => (HO.out.lt k hk).1)
                have HT6 := Lib.hid hown6
                clear hown6 hgr6
                repeat (first | go_values | go_skip | go_guarded | go_step | go_upon)
                refine ⟨⟨k + 1, by go_num, by omega, ?_, hb6⟩, by simp [intOf]; omega⟩
                exact join_step hp (by omega) HT6.out
            · obtain rfl : k = lb.length := by omega
              have hown1 := hown
              rw [List.take_length] at hown1
              have HF := Lib.hid hown1
              have HE := Lib.hid hownL
              clear hown1 hown hownL
              repeat (first | go_values | go_skip | go_guarded | go_step | go_upon)
              refine (tsame_any _ (la'.length + lb.length) _ _ _ _ _ (by omega) (by simp) (by have := HE.out; rw [List.length_append, List.length_map] at this; exact owns_below this hb) HF.out).mono ?_
              rintro e w7 ⟨rfl, hb7⟩
              dsimp only
              repeat (first | go_values | go_skip | go_guarded | go_step | go_upon)
              go_ret
              exact ⟨rfl, (by repeat (first | exact Below.refl _ _ | assumption | refine bal ?_ _ | refine bdr ?_ | refine bdrn ?_ _ | (refine bset ?_ (by first | exact Nat.le_refl _ | (simp; done) | (simp; omega) | omega) _) | refine bstep ?_ (by assumption)))⟩
      · have d3 : decide ((8192 : Int) < (S.size : Int) + T.size + 1) = true := by simp; omega
        go_enter Tryd.func7, Tryd.ntmps7
        repeat (first | go_values | go_skip | go_guarded | go_step | go_upon)
        refine (small3_any _ HL.out).mono ?_
        rintro e w1 ⟨rfl, hb1⟩
        obtain ⟨hc1, hf1⟩ := bcell hb1
        have hz1 := hb1.size
        try simp at hz1
        dsimp only
        repeat (first | go_values | go_skip | go_guarded | go_step | go_upon)
        refine (lexed_ok S _ (HL1.out _ (by repeat (first | exact Below.refl _ _ | assumption | refine bal ?_ _ | refine bdr ?_ | refine bdrn ?_ _ | (refine bset ?_ (by first | exact Nat.le_refl _ | (simp; done) | (simp; omega) | omega) _) | refine bstep ?_ (by assumption)))) HA.out).mono ?_
        rintro e w2 ⟨v, rfl, hown, hb2⟩
        obtain ⟨g, cap, hv, _⟩ := hown.form (by simp)
        subst hv
        clear hown
        dsimp only [List.length_append, List.length]
        repeat (first | go_values | go_skip | go_guarded | go_step | go_upon)
        refine (lexed_ok T _ (HL1.out _ (by repeat (first | exact Below.refl _ _ | assumption | refine bal ?_ _ | refine bdr ?_ | refine bdrn ?_ _ | (refine bset ?_ (by first | exact Nat.le_refl _ | (simp; done) | (simp; omega) | omega) _) | refine bstep ?_ (by assumption)))) HB.out).mono ?_
        rintro e w3 ⟨v3, rfl, _, hb3⟩
        dsimp only
        repeat (first | go_values | go_skip | go_guarded | go_step | go_upon)
        go_ret
        exact ⟨rfl, (by repeat (first | exact Below.refl _ _ | assumption | refine bal ?_ _ | refine bdr ?_ | refine bdrn ?_ _ | (refine bset ?_ (by first | exact Nat.le_refl _ | (simp; done) | (simp; omega) | omega) _) | refine bstep ?_ (by assumption)))⟩
end Go.Proofs.YtlohpplpnddfaaaDoor
