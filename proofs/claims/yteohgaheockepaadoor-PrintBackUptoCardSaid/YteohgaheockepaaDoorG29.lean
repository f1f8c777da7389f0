/- A text that is written piece by piece is cut into the pieces' tokens: plain. | The text of a tree, in pieces; it is well formed: plain. | A tree that was read, as any tree; two trees that are the same. | Reading the same tokens, elsewhere and with other tokens behind them: plain. | Reading the same tokens elsewhere: a part, one; all of them. -/
import Derived.Test.YteohgaheockepaaDoorG27
import Derived.Test.YteohgaheockepaaDoorG28
import Derived.Test.YteohgaheockepaaDoorG1
import Derived.Test.YteohgaheockepaaDoorG25
import Derived.Test.YteohgaheockepaaDoorG23
namespace Go.Proofs.YteohgaheockepaaDoor
open Go.RowKit

/-- A piece of a text: a blank, a line's end, a name, a sign, an arrow, a literal, a class. -/
inductive Pc where
  | sp
  | nl
  | nm (u : List UInt8)
  | sg (b : UInt8)
  | ar
  | lt (p : List UInt8)
  | cl (c : BitVec 256)
def Pc.tx : Pc → List UInt8
  | .sp => [32]
  | .nl => [10]
  | .nm u => u
  | .sg b => [b]
  | .ar => [60, 45]
  | .lt p => quoted p
  | .cl c => txt c
def Pc.co : Pc → List (Nat × List UInt8 × BitVec 256)
  | .sp => []
  | .nl => []
  | .nm u => [(1, u, 0)]
  | .sg b => [(5, [b], 0)]
  | .ar => [(2, [], 0)]
  | .lt p => [(3, p, 0)]
  | .cl c => [(4, [], c)]
def Pc.ok : Pc → Prop
  | .nm u => isName u = true
  | .sg b => isSign b.toNat = true
  | .lt p => p.length ≤ 255
  | _ => True
def txs : List Pc → List UInt8
  | [] => []
  | c :: l => c.tx ++ txs l
def cos : List Pc → List (Nat × List UInt8 × BitVec 256)
  | [] => []
  | c :: l => c.co ++ cos l
theorem txs_app (l m : List Pc) : txs (l ++ m) = txs l ++ txs m := by
  induction l with
  | nil => rfl
  | cons c l ih => rw [List.cons_append, txs, txs, ih, List.append_assoc]
theorem cos_app (l m : List Pc) : cos (l ++ m) = cos l ++ cos m := by
  induction l with
  | nil => rfl
  | cons c l ih => rw [List.cons_append, cos, cos, ih, List.append_assoc]
/-- No name goes on with that. -/
def StopB (u : List UInt8) : Prop := ∀ b r, u = b :: r → cont 1 b.toNat = false
def Good : List Pc → Prop
  | [] => True
  | c :: l => c.ok ∧ (∀ u, c = .nm u → StopB (txs l)) ∧ Good l
theorem cont_one {n b : Nat} (hn : 0 < n) : cont n b = cont 1 b := by
  have : (n != 0) = true := by simp; omega
  rw [cont, cont, this]
  rfl
theorem sign_byte {b : UInt8} (h : isSign b.toNat = true) : b = 47 ∨ b = 38 ∨ b = 33 ∨ b = 63 ∨ b = 42 ∨ b = 43 ∨ b = 40 ∨ b = 41 ∨ b = 46 := by
  simp only [isSign, Bool.or_eq_true, beq_iff_eq] at h
  have k : ∀ n : Nat, n < 256 → b.toNat = n → b = n.toUInt8 := fun n hn e => by
    rw [← UInt8.toNat_inj, e]
    simp
    omega
  rcases h with (((((((h | h) | h) | h) | h) | h) | h) | h) | h
  · exact .inl (k 47 (by decide) h)
  · exact .inr (.inl (k 38 (by decide) h))
  · exact .inr (.inr (.inl (k 33 (by decide) h)))
  · exact .inr (.inr (.inr (.inl (k 63 (by decide) h))))
  · exact .inr (.inr (.inr (.inr (.inl (k 42 (by decide) h)))))
  · exact .inr (.inr (.inr (.inr (.inr (.inl (k 43 (by decide) h))))))
  · exact .inr (.inr (.inr (.inr (.inr (.inr (.inl (k 40 (by decide) h)))))))
  · exact .inr (.inr (.inr (.inr (.inr (.inr (.inr (.inl (k 41 (by decide) h))))))))
  · exact .inr (.inr (.inr (.inr (.inr (.inr (.inr (.inr (k 46 (by decide) h))))))))
theorem name_zero {s : List UInt8} (h : cont 0 (byteAt s 0) = false) : nameLen s 0 = 0 := nameLen_is (fun j hj => by omega) (by simpa using h)
/-- A piece that is a token is read as it, alone. -/
theorem pc_tok {c : Pc} (h : c.ok) : (c = .sp ∨ c = .nl) ∨ ∃ k, 0 < c.tx.length ∧ tokAt c.tx 0 = .inr (k, c.tx.length) ∧ c.co = [core k] ∧ (k.kind = 1 → ∃ u, c = .nm u) ∧ byteAt c.tx 0 ≠ 35 ∧ isBlank (byteAt c.tx 0) = false := by
  cases c with
  | sp => exact .inl (.inl rfl)
  | nl => exact .inl (.inr rfl)
  | nm u =>
    right
    obtain ⟨h0, h1, h2⟩ := isName_spec h
    refine ⟨⟨1, u, 0, 0⟩, h0, ?_, rfl, fun _ => ⟨u, rfl⟩, ?_⟩
    · show tokAt u 0 = _
      unfold tokAt
      rw [h2, if_neg (by omega), if_pos h0]
      simp [Pc.tx]
    · have := (nameLen_spec u 0).1 0 (by omega)
      exact cont_letter this
  | sg b =>
    right
    refine ⟨⟨5, [b], 0, 0⟩, by simp [Pc.tx], ?_⟩
    rcases sign_byte h with rfl | rfl | rfl | rfl | rfl | rfl | rfl | rfl | rfl <;> exact ⟨by rfl, rfl, (fun e => by cases e), by decide, by decide⟩
  | ar => exact .inr ⟨⟨2, [], 0, 0⟩, by decide, by rfl, rfl, (fun e => by cases e), by decide, by decide⟩
  | lt p =>
    right
    have hq : quoted p = 39 :: quoR p := quoted_front p
    refine ⟨⟨3, p, 0, 0⟩, by show 0 < (quoted p).length; rw [hq]; simp, ?_, rfl, (fun e => by cases e), ?_, ?_⟩
    · show tokAt (quoted p) 0 = _
      rw [quoted_tok, if_pos (show p.length ≤ 255 from h)]
      rfl
    · show byteAt (quoted p) 0 ≠ 35
      rw [hq]; show (39 : UInt8).toNat ≠ 35; decide
    · show isBlank (byteAt (quoted p) 0) = false
      rw [hq]; rfl
  | cl c =>
    right
    have ht : txt c = 91 :: (rowsT (runs c) ++ [93]) := txt_rows c
    have h91 : byteAt (txt c) 0 = 91 := by rw [ht]; rfl
    refine ⟨⟨4, [], c, 0⟩, by show 0 < (txt c).length; rw [ht]; simp, ?_, rfl, (fun e => by cases e), ?_, ?_⟩
    · show tokAt (txt c) 0 = .inr (_, (txt c).length)
      have hn : nameLen (txt c) 0 = 0 := name_zero (by rw [h91]; rfl)
      have hp := parsed_txt c []
      rw [List.append_nil] at hp
      unfold tokAt
      rw [hn, if_neg (by decide), if_neg (by decide), h91, if_neg (by decide), if_neg (fun e => by simp at e), if_neg (by decide), if_pos rfl, List.drop_zero, hp]
      simp
    · show byteAt (txt c) 0 ≠ 35
      rw [h91]; decide
    · show isBlank (byteAt (txt c) 0) = false
      rw [h91]; rfl
theorem good_toks : ∀ (l : List Pc), Good l → ∀ (t : List UInt8) (q f : Nat) (acc : List Tok), t.drop q = txs l → q ≤ t.length → t.length < f + q →
    ∃ r, toksGo t f q acc = .inr (acc ++ r ++ [⟨6, [], 0, t.length⟩]) ∧ r.map core = cos l := by
  intro l
  induction l with
  | nil =>
    intro _ t q f acc hd hq hf
    have hl := congrArg List.length hd
    simp [txs] at hl
    obtain ⟨f, rfl⟩ : ∃ g, f = g + 1 := ⟨f - 1, by omega⟩
    exact ⟨[], by rw [toks_end (by omega)]; simp, rfl⟩
  | cons c l ih =>
    intro hg t q f acc hd hqt hf
    obtain ⟨hok, hst, hgl⟩ := hg
    rw [txs] at hd
    have hlen := congrArg List.length hd
    simp only [List.length_append, List.length_drop] at hlen
    rcases pc_tok hok with hb | ⟨k, h0, hk, hco, hkn, h35, hbl⟩
    · have key : ∀ b : UInt8, c.tx = [b] → isBlank b.toNat = true → b.toNat ≠ 35 → ∃ r, toksGo t f q acc = .inr (acc ++ r ++ [⟨6, [], 0, t.length⟩]) ∧ r.map core = cos l := by
        intro b hc hb hn
        rw [hc] at hd hlen
        have hin := drop_in hd
        obtain ⟨f, rfl⟩ : ∃ g, f = g + 1 := ⟨f - 1, by omega⟩
        rw [toksGo, if_neg (by omega), hin.2, if_neg hn, if_pos hb]
        exact ih hgl t (q + 1) f acc (drop_next hd) (by omega) (by omega)
      rcases hb with rfl | rfl
      · exact key 32 rfl (by rfl) (by decide)
      · exact key 10 rfl (by rfl) (by decide)
    · have hag : Agr c.tx t 0 q c.tx.length := by
        intro j hj
        rw [← drop_byte, hd, Nat.zero_add]
        unfold byteAt
        rw [List.getElem?_append_left (by omega)]
      have hd2 : t.drop (q + c.tx.length) = txs l := drop_more hd
      have hq : q < t.length := by omega
      have htok := tok_agr h0 hk hag (by
        intro h1
        obtain ⟨u, rfl⟩ := hkn h1
        have hs := hst u rfl
        unfold Ends
        rw [Nat.sub_zero, cont_one h0]
        cases hx : txs l with
        | nil =>
          rw [hx] at hd2
          have hle := congrArg List.length hd2
          simp at hle
          rw [byteAt_ge (by omega)]
          rfl
        | cons b r =>
          rw [hx] at hd2
          rw [(drop_in hd2).2]
          exact hs b r hx)
      obtain ⟨f, rfl⟩ : ∃ g, f = g + 1 := ⟨f - 1, by omega⟩
      have hh := hag.here (by omega)
      rw [Nat.sub_zero] at htok
      rw [toksGo, if_neg (by omega), hh, if_neg h35, hbl, htok]
      obtain ⟨r, r1, r2⟩ := ih hgl t (q + c.tx.length) f (acc ++ [⟨k.kind, k.text, k.cls, q⟩]) hd2 (by omega) (by omega)
      refine ⟨⟨k.kind, k.text, k.cls, q⟩ :: r, ?_, ?_⟩
      · simp only [Bool.false_eq_true, if_false]
        rw [r1]
        simp
      · rw [List.map_cons, r2, cos, hco]
        rfl
/-- The tokens of such a text. -/
theorem good_lexed {l : List Pc} (h : Good l) (h8 : (txs l).length ≤ 8192) : ∃ r, lexed (txs l) = .inr (r ++ [⟨6, [], 0, (txs l).length⟩]) ∧ r.map core = cos l := by
  obtain ⟨r, h1, h2⟩ := good_toks l h (txs l) 0 (2 * (txs l).length + 2) [] (by simp) (by omega) (by omega)
  exact ⟨r, lexed_toks h8 (by rw [toks, h1]; simp), h2⟩
end Go.Proofs.YteohgaheockepaaDoor
namespace Go.Proofs.YteohgaheockepaaDoor
open Go.RowKit

/-- A tree that may be printed (how many parentheses are open is not asked). -/
inductive OkT : Tr → Prop
  | empty {p : Int} : OkT (.mk 1 [] 0 [] p)
  | lit {t : List UInt8} {p : Int} : t.length ≤ 255 → OkT (.mk 2 t 0 [] p)
  | set {c : BitVec 256} {p : Int} : OkT (.mk 3 [] c [] p)
  | any {p : Int} : OkT (.mk 4 [] 0 [] p)
  | ref {t : List UInt8} {p : Int} : isName t = true → OkT (.mk 5 t 0 [] p)
  | seq {l : List Tr} {p : Int} : 1 < l.length → (∀ n ∈ l, OkT n) → OkT (.mk 6 [] 0 l p)
  | alt {l : List Tr} {p : Int} : 1 < l.length → (∀ n ∈ l, OkT n) → OkT (.mk 7 [] 0 l p)
  | post {k p : Int} {x : Tr} : k = 8 ∨ k = 9 ∨ k = 10 → OkT x → OkT (.mk k [] 0 [x] p)
  | pre {k p : Int} {x : Tr} : k = 11 ∨ k = 12 → OkT x → OkT (.mk k [] 0 [x] p)
def Tr.kind : Tr → Int
  | .mk k _ _ _ _ => k
/-- How a part must stand. -/
def rankT (k : Int) : Nat := if k = 7 then 0 else if k = 6 then 1 else if k = 11 ∨ k = 12 then 2 else if k = 8 ∨ k = 9 ∨ k = 10 then 3 else 4
def postB (k : Int) : UInt8 := if k = 8 then 63 else if k = 9 then 42 else 43
def preB (k : Int) : UInt8 := if k = 11 then 38 else 33
/-- A part that must have that rank at least. -/
def paren (r k : Nat) (l : List Pc) : List Pc := if r ≤ k then l else .sg 40 :: (l ++ [.sg 41])
mutual
/-- The pieces of an expression's text. -/
def pcT : Tr → List Pc
  | .mk k t c l _ => if k = 1 then [.sg 40, .sg 41] else if k = 2 then [.lt t] else if k = 3 then [.cl c] else if k = 4 then [.sg 46] else if k = 5 then [.nm t]
    else if k = 7 then pcR [.sp, .sg 47, .sp] 1 true l else if k = 6 then pcR [.sp] 2 true l else if k = 11 ∨ k = 12 then .sg (preB k) :: pcR [] 3 true l else pcR [] 4 true l ++ [.sg (postB k)]
/-- Parts with pieces between each two. -/
def pcR (sep : List Pc) (r : Nat) (first : Bool) : List Tr → List Pc
  | [] => []
  | n :: l => (if first then [] else sep) ++ (paren r (rankT n.kind) (pcT n) ++ pcR sep r false l)
end
def pcQ (r : Nat) (n : Tr) : List Pc := paren r (rankT n.kind) (pcT n)
theorem pcR_cons (sep : List Pc) (r : Nat) (first : Bool) (n : Tr) (l : List Tr) : pcR sep r first (n :: l) = (if first then [] else sep) ++ (pcQ r n ++ pcR sep r false l) := by rw [pcR, pcQ]
theorem pcR_nil (sep : List Pc) (r : Nat) (first : Bool) : pcR sep r first [] = [] := by rw [pcR]
theorem stop_sign {b : UInt8} (h : isSign b.toNat = true) (u : List UInt8) : StopB (b :: u) := by
  intro b' r e
  injection e with e1 e2
  subst e1
  rcases sign_byte h with rfl | rfl | rfl | rfl | rfl | rfl | rfl | rfl | rfl <;> rfl
theorem stop_blank (u : List UInt8) : StopB (32 :: u) := by
  intro b r e
  injection e with e1 e2
  subst e1
  rfl
theorem good_sign {b : UInt8} {l : List Pc} (h : isSign b.toNat = true) (hl : Good l) : Good (.sg b :: l) := ⟨h, fun u e => (by cases e), hl⟩
theorem txs_sign (b : UInt8) (l : List Pc) : txs (.sg b :: l) = b :: txs l := rfl
theorem good_paren {r k : Nat} {l X : List Pc} (h : ∀ Y, Good Y → StopB (txs Y) → Good (l ++ Y)) (hX : Good X) (hs : StopB (txs X)) : Good (paren r k l ++ X) := by
  unfold paren
  split
  · exact h X hX hs
  · rw [List.cons_append, List.append_assoc]
    exact good_sign (by rfl) (h _ (good_sign (by rfl) hX) (by rw [List.cons_append, txs_sign]; exact stop_sign (by rfl) _))
/-- What may stand between parts. -/
def SepOk (sep : List Pc) : Prop := ∀ X, Good X → Good (sep ++ X) ∧ StopB (txs (sep ++ X))
theorem sep_sp : SepOk [.sp] := fun X hX => ⟨⟨trivial, fun u e => (by cases e), hX⟩, stop_blank _⟩
theorem sep_alt : SepOk [.sp, .sg 47, .sp] := fun X hX => ⟨⟨trivial, fun u e => (by cases e), good_sign (by rfl) ⟨trivial, fun u e => (by cases e), hX⟩⟩, stop_blank _⟩
theorem good_row {sep : List Pc} {r : Nat} : ∀ (l : List Tr) (first : Bool), (∀ n ∈ l, ∀ X, Good X → StopB (txs X) → Good (pcT n ++ X)) → SepOk sep ∨ (first = true ∧ l.length ≤ 1) → ∀ X, Good X → StopB (txs X) → Good (pcR sep r first l ++ X) ∧ (first = false → StopB (txs (pcR sep r first l ++ X))) := by
  intro l
  induction l with
  | nil => intro first _ _ X hX hs; rw [pcR_nil]; exact ⟨hX, fun _ => hs⟩
  | cons n l ih =>
    intro first hl hsep X hX hs
    have h1 : Good (pcR sep r false l ++ X) ∧ StopB (txs (pcR sep r false l ++ X)) := by
      rcases hsep with h | ⟨_, h⟩
      · have := ih false (fun m hm => hl m (List.mem_cons_of_mem _ hm)) (.inl h) X hX hs
        exact ⟨this.1, this.2 rfl⟩
      · obtain rfl : l = [] := List.eq_nil_of_length_eq_zero (by simpa using h)
        rw [pcR_nil]
        exact ⟨hX, hs⟩
    have h2 : Good (pcQ r n ++ (pcR sep r false l ++ X)) := good_paren (fun Y hY hsY => hl n List.mem_cons_self Y hY hsY) h1.1 h1.2
    rw [pcR_cons, List.append_assoc, List.append_assoc]
    cases first with
    | true => exact ⟨h2, fun e => (by cases e)⟩
    | false =>
      rcases hsep with h | ⟨h, _⟩
      · have := h _ h2
        exact ⟨this.1, fun _ => this.2⟩
      · cases h
theorem good_tree {n : Tr} (h : OkT n) : ∀ X, Good X → StopB (txs X) → Good (pcT n ++ X) := by
  induction h with
  | empty => intro X hX _; exact good_sign (by rfl) (good_sign (by rfl) hX)
  | lit h => intro X hX _; exact ⟨h, fun u e => (by cases e), hX⟩
  | set => intro X hX _; exact ⟨trivial, fun u e => (by cases e), hX⟩
  | any => intro X hX _; exact good_sign (by rfl) hX
  | ref h => intro X hX hs; exact ⟨h, fun u _ => hs, hX⟩
  | seq _ _ ih => intro X hX hs; exact (good_row _ true ih (.inl sep_sp) X hX hs).1
  | alt _ _ ih => intro X hX hs; exact (good_row _ true ih (.inl sep_alt) X hX hs).1
  | @post k p x hk _ ih =>
    intro X hX hs
    have hb : isSign (postB k).toNat = true := by rcases hk with rfl | rfl | rfl <;> rfl
    have e : pcT (.mk k [] 0 [x] p) = pcR [] 4 true [x] ++ [.sg (postB k)] := by rcases hk with rfl | rfl | rfl <;> (rw [pcT]; rfl)
    rw [e, List.append_assoc]
    exact (good_row [x] true (fun m hm => by obtain rfl := List.mem_singleton.1 hm; exact ih) (.inr ⟨rfl, Nat.le_refl _⟩) _ (good_sign hb hX) (stop_sign hb _)).1
  | @pre k p x hk _ ih =>
    intro X hX hs
    have hb : isSign (preB k).toNat = true := by rcases hk with rfl | rfl <;> rfl
    have e : pcT (.mk k [] 0 [x] p) = .sg (preB k) :: pcR [] 3 true [x] := by rcases hk with rfl | rfl <;> (rw [pcT]; rfl)
    rw [e, List.cons_append]
    exact good_sign hb (good_row [x] true (fun m hm => by obtain rfl := List.mem_singleton.1 hm; exact ih) (.inr ⟨rfl, Nat.le_refl _⟩) X hX hs).1
end Go.Proofs.YteohgaheockepaaDoor
namespace Go.Proofs.YteohgaheockepaaDoor
open Go.RowKit Go.Sort

mutual
/-- A tree that was read, as any tree. -/
def Nd.tr : Nd → Tr
  | .mk k t c l p => .mk (k : Int) t c (Nd.trs l) (p : Int)
def Nd.trs : List Nd → List Tr
  | [] => []
  | n :: l => n.tr :: Nd.trs l
end
theorem Nd.trs_length (l : List Nd) : (Nd.trs l).length = l.length := by
  induction l with
  | nil => rfl
  | cons n l ih => simp [Nd.trs, ih]
mutual
theorem Rep.anyT {w : World} {P : Nat → Prop} {n : Nd} {c : List Value} : Rep w P n c → RepA w P n.tr c
  | .mk h => by rw [Nd.tr]; exact .mk (RepS.anyT h)
theorem RepS.anyT {w : World} {P : Nat → Prop} {l : List Nd} {v : Value} : RepS w P l v → RepL w P (Nd.trs l) v
  | .nil => by rw [Nd.trs]; exact .null
  | @RepS.row _ _ l g cap cur cs h1 h2 h3 h4 hm h5 h6 => by
    have h := RepL.row (w := w) (P := P) (l := Nd.trs l) (g := g) (o := 0) (cap := cap) h1 (by rw [Nd.trs_length]; exact h3) (by rw [Nd.trs_length]; exact h4) (by rw [Nd.trs_length]; exact hm) (Reps.anyT g 0 h6 (fun j hj => by
      rw [(cells_at h2).1, ← h5, List.getElem?_take, if_pos (by rw [← h6.length]; exact hj), Array.getElem?_toList, Nat.zero_add]))
    rw [Nd.trs_length] at h
    exact h
theorem Reps.anyT {w : World} {P : Nat → Prop} {l : List Nd} {cs : List Value} (g o : Nat) : Reps w P l cs → (∀ j, j < cs.length → w.cell? ⟨g, o + j, none⟩ = cs[j]?) → RepC w P g o (Nd.trs l)
  | .nil, _ => by rw [Nd.trs]; exact .nil
  | @Reps.cons _ _ n l c cs h1 h2, hc => by
    rw [Nd.trs]
    have h8 : c.length = 8 := by cases h1; rfl
    refine .cons (cs := c) (fun j hj => ?_) (Rep.anyT h1) (Reps.anyT g (o + 8) h2 (fun j hj => ?_))
    · rw [hc j (by rw [List.length_append]; omega), List.getElem?_append_left (by omega)]
    · have := hc (8 + j) (by rw [List.length_append]; omega)
      rw [List.getElem?_append_right (by omega), h8, Nat.add_sub_cancel_left] at this
      rw [← this]
      congr 2
      omega
end
end Go.Proofs.YteohgaheockepaaDoor
namespace Go.Proofs.YteohgaheockepaaDoor
open Go.RowKit Go.Sort

/-- A token without its place. -/
def bareT (t : Tok) : Nat × List UInt8 × BitVec 256 := (t.kind, t.text, t.cls)
theorem bare_cases {T T' : List Tok} (h : T.map bareT = T'.map bareT) : (T = [] ∧ T' = []) ∨ ∃ t t' T1 T1', T = t :: T1 ∧ T' = t' :: T1' ∧ t.kind = t'.kind ∧ t.text = t'.text ∧ t.cls = t'.cls ∧ T1.map bareT = T1'.map bareT := by
  cases T with
  | nil => cases T' with
    | nil => exact .inl ⟨rfl, rfl⟩
    | cons _ _ => simp at h
  | cons t T1 => cases T' with
    | nil => simp at h
    | cons t' T1' =>
      simp only [List.map_cons, List.cons.injEq, bareT, Prod.mk.injEq] at h
      exact .inr ⟨t, t', T1, T1', rfl, rfl, h.1.1, h.1.2.1, h.1.2.2, h.2⟩
/-- Tokens at which a choice stops. -/
structure StopT (S : List Tok) : Prop where
  sl : sgnOf S ≠ [47]
  pre : preK (sgnOf S) = 0
  suf : sufK (sgnOf S) = 0
  arrow : kindT S ≠ 2
  one : ∀ f d, pOne (f + 1) d S = some (.ok none S)
theorem end_stop {e : Tok} (he : e.kind = 6) : StopT [e] := by
  have hs : sgnOf [e] = [] := by rw [sgnOf, if_neg (by omega)]
  refine ⟨by rw [hs]; decide, by rw [hs]; rfl, by rw [hs]; rfl, by show e.kind ≠ 2; omega, fun f d => ?_⟩
  rw [pOne, if_neg (by omega), if_neg (by omega), if_neg (by omega), if_neg (by omega), if_neg (by omega)]
theorem sgn_bare {T T' S S' : List Tok} (h : T.map bareT = T'.map bareT) : (T = [] ∧ T' = []) ∨ (T ≠ [] ∧ sgnOf (T ++ S) = sgnOf (T' ++ S')) := by
  rcases bare_cases h with h | ⟨t, t', T1, T1', rfl, rfl, h1, h2, _, _⟩
  · exact .inl h
  · exact .inr ⟨by simp, by simp only [List.cons_append, sgnOf, h1, h2]⟩
/-- The same of what may come. -/
def SameO : Option Nd → Option Nd → Prop
  | none, none => True
  | some n, some m => SameN false n m
  | _, _ => False
theorem SameN.join {k : Nat} : ∀ {l l' : List Nd}, SameL false l l' → 0 < l.length → SameN false (joinN k l) (joinN k l')
  | [], _, _, h0 => by simp at h0
  | [_], _, .cons h1 .nil, _ => h1
  | _ :: _ :: _, _, .cons h1 (.cons h2 h3), _ => .mk (fun h => by cases h) (.cons h1 (.cons h2 h3))
/-- No end among them. -/
def NoEnd (T : List Tok) : Prop := ∀ t ∈ T, t.kind ≠ 6
theorem NoEnd.tail {t : Tok} {T : List Tok} (h : NoEnd (t :: T)) : NoEnd T := fun u hu => h u (by simp [hu])
theorem kind_behind {T1 T1' : List Tok} {e : Tok} {S : List Tok} (he : e.kind = 6) (hS : StopT S) (hc : T1.map bareT = T1'.map bareT) : kindT (T1 ++ [e]) = 2 ↔ kindT (T1' ++ S) = 2 := by
  rcases bare_cases hc with ⟨rfl, rfl⟩ | ⟨t, t', U, U', rfl, rfl, h1, _, _, _⟩
  · have := hS.arrow
    simp only [List.nil_append]
    show e.kind = 2 ↔ _
    omega
  · show t.kind = 2 ↔ t'.kind = 2
    omega
/-- Reading tokens up to an end, and the like tokens, as deep or deeper, up to others at which a choice stops. -/
structure Swap (f : Nat) (e : Tok) (S : List Tok) : Prop where
  choice : ∀ {d d' : Nat} {T T' r : List Tok} {n : Nd}, NoEnd T → T.map bareT = T'.map bareT → d ≤ d' → pChoice f d (T ++ [e]) = some (.ok n r) → ∃ T2, r = T2 ++ [e] ∧ NoEnd T2 ∧ ((d ≠ d' ∧ ∃ x, pChoice f d' (T' ++ S) = some (.err 2 x)) ∨ ∃ m T2', pChoice f d' (T' ++ S) = some (.ok m (T2' ++ S)) ∧ T2.map bareT = T2'.map bareT ∧ SameN false n m)
  alts : ∀ {d d' : Nat} {T T' r : List Tok} {n : Nd} {l l' : List Nd}, NoEnd T → T.map bareT = T'.map bareT → d ≤ d' → SameL false l l' → 0 < l.length → pAlts f d (T ++ [e]) l = some (.ok n r) → ∃ T2, r = T2 ++ [e] ∧ NoEnd T2 ∧ ((d ≠ d' ∧ ∃ x, pAlts f d' (T' ++ S) l' = some (.err 2 x)) ∨ ∃ m T2', pAlts f d' (T' ++ S) l' = some (.ok m (T2' ++ S)) ∧ T2.map bareT = T2'.map bareT ∧ SameN false n m)
  parts : ∀ {d d' : Nat} {T T' r : List Tok} {n : Nd} {l l' : List Nd}, NoEnd T → T.map bareT = T'.map bareT → d ≤ d' → SameL false l l' → pParts f d (T ++ [e]) l = some (.ok n r) → ∃ T2, r = T2 ++ [e] ∧ NoEnd T2 ∧ ((d ≠ d' ∧ ∃ x, pParts f d' (T' ++ S) l' = some (.err 2 x)) ∨ ∃ m T2', pParts f d' (T' ++ S) l' = some (.ok m (T2' ++ S)) ∧ T2.map bareT = T2'.map bareT ∧ SameN false n m)
  part : ∀ {d d' : Nat} {T T' r : List Tok} {n : Option Nd}, NoEnd T → T.map bareT = T'.map bareT → d ≤ d' → pPart f d (T ++ [e]) = some (.ok n r) → ∃ T2, r = T2 ++ [e] ∧ NoEnd T2 ∧ ((d ≠ d' ∧ ∃ x, pPart f d' (T' ++ S) = some (.err 2 x)) ∨ ∃ m T2', pPart f d' (T' ++ S) = some (.ok m (T2' ++ S)) ∧ T2.map bareT = T2'.map bareT ∧ SameO n m)
  one : ∀ {d d' : Nat} {T T' r : List Tok} {n : Option Nd}, NoEnd T → T.map bareT = T'.map bareT → d ≤ d' → pOne f d (T ++ [e]) = some (.ok n r) → ∃ T2, r = T2 ++ [e] ∧ NoEnd T2 ∧ ((d ≠ d' ∧ ∃ x, pOne f d' (T' ++ S) = some (.err 2 x)) ∨ ∃ m T2', pOne f d' (T' ++ S) = some (.ok m (T2' ++ S)) ∧ T2.map bareT = T2'.map bareT ∧ SameO n m)
theorem swap_choice {f : Nat} {e : Tok} {S : List Tok} (ih : Swap f e S) {d d' : Nat} {T T' r : List Tok} {n : Nd} (hT : NoEnd T) (hc : T.map bareT = T'.map bareT) (hd : d ≤ d') (h : pChoice (f + 1) d (T ++ [e]) = some (.ok n r)) : ∃ T2, r = T2 ++ [e] ∧ NoEnd T2 ∧ ((d ≠ d' ∧ ∃ x, pChoice (f + 1) d' (T' ++ S) = some (.err 2 x)) ∨ ∃ m T2', pChoice (f + 1) d' (T' ++ S) = some (.ok m (T2' ++ S)) ∧ T2.map bareT = T2'.map bareT ∧ SameN false n m) := by
  rw [pChoice] at h
  rw [pChoice]
  cases e1 : pParts f d (T ++ [e]) [] with
  | none => rw [e1] at h; cases h
  | some x =>
    rw [e1] at h
    cases x with
    | err c x => cases h
    | ok n1 r1 =>
      obtain ⟨T1, rfl, hT1, g⟩ := ih.parts hT hc hd .nil e1
      rcases g with ⟨hne, x, g⟩ | ⟨m, T1', g, hc1, hs⟩
      · obtain ⟨T2, rfl, hT2, _⟩ := ih.alts (d' := d) hT1 (rfl : T1.map bareT = T1.map bareT) (Nat.le_refl _) (SameL.refl false [n1]) (by simp) h
        exact ⟨T2, rfl, hT2, .inl ⟨hne, x, by rw [g]⟩⟩
      · rw [g]
        exact ih.alts hT1 hc1 hd (.cons hs .nil) (by simp) h
theorem swap_alts {f : Nat} {e : Tok} {S : List Tok} (he : e.kind = 6) (hS : StopT S) (ih : Swap f e S) {d d' : Nat} {T T' r : List Tok} {n : Nd} {l l' : List Nd} (hT : NoEnd T) (hc : T.map bareT = T'.map bareT) (hd : d ≤ d') (hl : SameL false l l') (h0 : 0 < l.length) (h : pAlts (f + 1) d (T ++ [e]) l = some (.ok n r)) : ∃ T2, r = T2 ++ [e] ∧ NoEnd T2 ∧ ((d ≠ d' ∧ ∃ x, pAlts (f + 1) d' (T' ++ S) l' = some (.err 2 x)) ∨ ∃ m T2', pAlts (f + 1) d' (T' ++ S) l' = some (.ok m (T2' ++ S)) ∧ T2.map bareT = T2'.map bareT ∧ SameN false n m) := by
  rw [pAlts] at h
  rw [pAlts]
  rcases sgn_bare (S := [e]) (S' := S) hc with ⟨rfl, rfl⟩ | ⟨hne, hs⟩
  · simp only [List.nil_append] at h ⊢
    rw [if_neg (end_stop he).sl] at h
    rw [if_neg hS.sl]
    have e2 := Option.some.inj h
    injection e2 with e3 e4
    subst e3 e4
    exact ⟨[], rfl, hT, .inr ⟨_, [], rfl, rfl, SameN.join hl h0⟩⟩
  · rw [← hs]
    split at h
    · next h47 =>
      rw [if_pos h47]
      obtain ⟨t, t', T1, T1', rfl, rfl, _, _, _, hc1⟩ := (bare_cases hc).resolve_left (fun h => hne h.1)
      simp only [List.cons_append, List.tail_cons] at h ⊢
      cases e1 : pParts f d (T1 ++ [e]) [] with
      | none => rw [e1] at h; cases h
      | some x =>
        rw [e1] at h
        cases x with
        | err c x => cases h
        | ok n1 r1 =>
          obtain ⟨T2, rfl, hT2, g⟩ := ih.parts hT.tail hc1 hd .nil e1
          rcases g with ⟨hdd, x, g⟩ | ⟨m, T2', g, hc2, hs2⟩
          · obtain ⟨T3, rfl, hT3, _⟩ := ih.alts (d' := d) hT2 (rfl : T2.map bareT = T2.map bareT) (Nat.le_refl _) (SameL.refl false (l ++ [n1])) (by simp) h
            exact ⟨T3, rfl, hT3, .inl ⟨hdd, x, by rw [g]⟩⟩
          · rw [g]
            exact ih.alts hT2 hc2 hd (hl.snoc hs2) (by simp) h
    · next h47 =>
      rw [if_neg h47]
      have e2 := Option.some.inj h
      injection e2 with e3 e4
      subst e3 e4
      exact ⟨T, rfl, hT, .inr ⟨_, T', rfl, hc, SameN.join hl h0⟩⟩
theorem swap_parts {f : Nat} {e : Tok} {S : List Tok} (ih : Swap f e S) {d d' : Nat} {T T' r : List Tok} {n : Nd} {l l' : List Nd} (hT : NoEnd T) (hc : T.map bareT = T'.map bareT) (hd : d ≤ d') (hl : SameL false l l') (h : pParts (f + 1) d (T ++ [e]) l = some (.ok n r)) : ∃ T2, r = T2 ++ [e] ∧ NoEnd T2 ∧ ((d ≠ d' ∧ ∃ x, pParts (f + 1) d' (T' ++ S) l' = some (.err 2 x)) ∨ ∃ m T2', pParts (f + 1) d' (T' ++ S) l' = some (.ok m (T2' ++ S)) ∧ T2.map bareT = T2'.map bareT ∧ SameN false n m) := by
  rw [pParts] at h
  rw [pParts]
  cases e1 : pPart f d (T ++ [e]) with
  | none => rw [e1] at h; cases h
  | some x =>
    rw [e1] at h
    cases x with
    | err c x => cases h
    | ok a r1 =>
      obtain ⟨T1, rfl, hT1, g⟩ := ih.part hT hc hd e1
      cases a with
      | none =>
        have e2 := Option.some.inj h
        injection e2 with e3 e4
        subst e3 e4
        rcases g with ⟨hdd, x, g⟩ | ⟨m, T1', g, hc1, hs⟩
        · exact ⟨T1, rfl, hT1, .inl ⟨hdd, x, by rw [g]⟩⟩
        · cases m with
          | some m => exact hs.elim
          | none =>
            refine ⟨T1, rfl, hT1, .inr ⟨_, T1', by rw [g], hc1, ?_⟩⟩
            rw [← hl.length]
            split
            · exact .mk (fun h => by cases h) .nil
            · exact SameN.join hl (by omega)
      | some n1 =>
        rcases g with ⟨hdd, x, g⟩ | ⟨m, T1', g, hc1, hs⟩
        · obtain ⟨T3, rfl, hT3, _⟩ := ih.parts (d' := d) hT1 (rfl : T1.map bareT = T1.map bareT) (Nat.le_refl _) (SameL.refl false (l ++ [n1])) h
          exact ⟨T3, rfl, hT3, .inl ⟨hdd, x, by rw [g]⟩⟩
        · cases m with
          | none => exact hs.elim
          | some m =>
            rw [g]
            exact ih.parts hT1 hc1 hd (hl.snoc hs) h
end Go.Proofs.YteohgaheockepaaDoor
namespace Go.Proofs.YteohgaheockepaaDoor
open Go.RowKit Go.Sort

theorem pre_bare {T T' S : List Tok} {e : Tok} (he : e.kind = 6) (hS : StopT S) (hc : T.map bareT = T'.map bareT) : preK (sgnOf (T ++ [e])) = preK (sgnOf (T' ++ S)) := by
  rcases sgn_bare (S := [e]) (S' := S) hc with ⟨rfl, rfl⟩ | ⟨_, hs⟩
  · simp only [List.nil_append]; rw [(end_stop he).pre, hS.pre]
  · rw [hs]
theorem suf_bare {T T' S : List Tok} {e : Tok} (he : e.kind = 6) (hS : StopT S) (hc : T.map bareT = T'.map bareT) : sufK (sgnOf (T ++ [e])) = sufK (sgnOf (T' ++ S)) := by
  rcases sgn_bare (S := [e]) (S' := S) hc with ⟨rfl, rfl⟩ | ⟨_, hs⟩
  · simp only [List.nil_append]; rw [(end_stop he).suf, hS.suf]
  · rw [hs]
theorem SameN.wrap {k p p' : Nat} {n m : Nd} (h : SameN false n m) : SameN false (.mk k [] 0 [n] p) (.mk k [] 0 [m] p') := .mk (fun h => by cases h) (.cons h .nil)
/-- What a sign makes of a node. -/
def signed (k : Nat) (n : Nd) (p : Nat) : Nd := if k = 0 then n else .mk k [] 0 [n] p
theorem SameN.signed {k p p' : Nat} {n m : Nd} (h : SameN false n m) : SameN false (signed k n p) (signed k m p') := by
  unfold Go.Proofs.YteohgaheockepaaDoor.signed
  split
  · exact h
  · exact h.wrap
theorem part_some {f d : Nat} {rs rs2 : List Tok} {n : Nd} (h : pOne f d (if preK (sgnOf rs) = 0 then rs else rs.tail) = some (.ok (some n) rs2)) : pPart (f + 1) d rs = some (.ok (some (signed (preK (sgnOf rs)) (signed (sufK (sgnOf rs2)) n n.pos) (posT rs))) (if sufK (sgnOf rs2) = 0 then rs2 else rs2.tail)) := by
  rw [pPart, h]; rfl
theorem part_err {f d c x : Nat} {rs : List Tok} (h : pOne f d (if preK (sgnOf rs) = 0 then rs else rs.tail) = some (.err c x)) : pPart (f + 1) d rs = some (.err c x) := by rw [pPart, h]
theorem swap_part {f : Nat} {e : Tok} {S : List Tok} (he : e.kind = 6) (hS : StopT S) (ih : Swap f e S) {d d' : Nat} {T T' r : List Tok} {n : Option Nd} (hT : NoEnd T) (hc : T.map bareT = T'.map bareT) (hd : d ≤ d') (h : pPart (f + 1) d (T ++ [e]) = some (.ok n r)) : ∃ T2, r = T2 ++ [e] ∧ NoEnd T2 ∧ ((d ≠ d' ∧ ∃ x, pPart (f + 1) d' (T' ++ S) = some (.err 2 x)) ∨ ∃ m T2', pPart (f + 1) d' (T' ++ S) = some (.ok m (T2' ++ S)) ∧ T2.map bareT = T2'.map bareT ∧ SameO n m) := by
  have hp := pre_bare he hS hc
  -- the tokens behind a sign ahead
  obtain ⟨U, U', hU, hcU, eU, eU'⟩ : ∃ U U', NoEnd U ∧ U.map bareT = U'.map bareT ∧ (if preK (sgnOf (T ++ [e])) = 0 then T ++ [e] else (T ++ [e]).tail) = U ++ [e] ∧ (if preK (sgnOf (T' ++ S)) = 0 then T' ++ S else (T' ++ S).tail) = U' ++ S := by
    by_cases h0 : preK (sgnOf (T ++ [e])) = 0
    · exact ⟨T, T', hT, hc, by rw [if_pos h0], by rw [if_pos (by rw [← hp]; exact h0)]⟩
    · rcases bare_cases hc with ⟨rfl, rfl⟩ | ⟨t, t', T1, T1', rfl, rfl, _, _, _, hc1⟩
      · exact absurd (by simpa using (end_stop he).pre) h0
      · exact ⟨T1, T1', hT.tail, hc1, by rw [if_neg h0]; rfl, by rw [if_neg (by rw [← hp]; exact h0)]; rfl⟩
  cases e1 : pOne f d (U ++ [e]) with
  | none => rw [pPart, eU, e1] at h; cases h
  | some x =>
    cases x with
    | err c x => rw [part_err (by rw [eU]; exact e1)] at h; cases h
    | ok a r1 =>
      obtain ⟨T1, rfl, hT1, g⟩ := ih.one hU hcU hd e1
      cases a with
      | none =>
        rw [pPart, eU, e1] at h
        simp only at h
        by_cases h0 : preK (sgnOf (T ++ [e])) = 0
        · rw [if_pos h0] at h
          have e2 := Option.some.inj h
          injection e2 with e3 e4
          subst e3 e4
          rcases g with ⟨hdd, x, g⟩ | ⟨m, T1', g, hc1, hs⟩
          · exact ⟨T1, rfl, hT1, .inl ⟨hdd, x, part_err (by rw [eU']; exact g)⟩⟩
          · cases m with
            | some m => exact hs.elim
            | none =>
              refine ⟨T1, rfl, hT1, .inr ⟨none, T1', ?_, hc1, trivial⟩⟩
              rw [pPart, eU', g]
              simp only
              rw [if_pos (by rw [← hp]; exact h0)]
        · rw [if_neg h0] at h; cases h
      | some n1 =>
        rw [part_some (by rw [eU]; exact e1)] at h
        have e2 := Option.some.inj h
        injection e2 with e3 e4
        subst e3 e4
        rcases g with ⟨hdd, x, g⟩ | ⟨m, T1', g, hc1, hs⟩
        · obtain ⟨T3, e3, hT3⟩ : ∃ T3, (if sufK (sgnOf (T1 ++ [e])) = 0 then T1 ++ [e] else (T1 ++ [e]).tail) = T3 ++ [e] ∧ NoEnd T3 := by
            by_cases h0 : sufK (sgnOf (T1 ++ [e])) = 0
            · exact ⟨T1, by rw [if_pos h0], hT1⟩
            · cases T1 with
              | nil => exact absurd (by simpa using (end_stop he).suf) h0
              | cons t T1 => exact ⟨T1, by rw [if_neg h0]; rfl, hT1.tail⟩
          exact ⟨T3, e3, hT3, .inl ⟨hdd, x, part_err (by rw [eU']; exact g)⟩⟩
        · cases m with
          | none => exact hs.elim
          | some m =>
            have hsf := suf_bare he hS hc1
            have hs2 : SameN false n1 m := hs
            obtain ⟨T3, T3', e3, e3', hT3, hc3⟩ : ∃ T3 T3', (if sufK (sgnOf (T1 ++ [e])) = 0 then T1 ++ [e] else (T1 ++ [e]).tail) = T3 ++ [e] ∧ (if sufK (sgnOf (T1' ++ S)) = 0 then T1' ++ S else (T1' ++ S).tail) = T3' ++ S ∧ NoEnd T3 ∧ T3.map bareT = T3'.map bareT := by
              by_cases h0 : sufK (sgnOf (T1 ++ [e])) = 0
              · exact ⟨T1, T1', by rw [if_pos h0], by rw [if_pos (by rw [← hsf]; exact h0)], hT1, hc1⟩
              · rcases bare_cases hc1 with ⟨rfl, rfl⟩ | ⟨t, t', U1, U1', rfl, rfl, _, _, _, hcU1⟩
                · exact absurd (by simpa using (end_stop he).suf) h0
                · exact ⟨U1, U1', by rw [if_neg h0]; rfl, by rw [if_neg (by rw [← hsf]; exact h0)]; rfl, hT1.tail, hcU1⟩
            refine ⟨T3, e3, hT3, .inr ⟨_, T3', by rw [part_some (by rw [eU']; exact g), e3'], hc3, ?_⟩⟩
            rw [hp, hsf]
            exact (SameN.signed hs2).signed
theorem swap_one {f : Nat} {e : Tok} {S : List Tok} (he : e.kind = 6) (hS : StopT S) (ih : Swap f e S) {d d' : Nat} {T T' r : List Tok} {n : Option Nd} (hT : NoEnd T) (hc : T.map bareT = T'.map bareT) (hd : d ≤ d') (h : pOne (f + 1) d (T ++ [e]) = some (.ok n r)) : ∃ T2, r = T2 ++ [e] ∧ NoEnd T2 ∧ ((d ≠ d' ∧ ∃ x, pOne (f + 1) d' (T' ++ S) = some (.err 2 x)) ∨ ∃ m T2', pOne (f + 1) d' (T' ++ S) = some (.ok m (T2' ++ S)) ∧ T2.map bareT = T2'.map bareT ∧ SameO n m) := by
  rcases bare_cases hc with ⟨rfl, rfl⟩ | ⟨t, t', T1, T1', rfl, rfl, hk, ht, hcl, hc1⟩
  · simp only [List.nil_append] at h ⊢
    rw [(end_stop he).one] at h
    have e2 := Option.some.inj h
    injection e2 with e3 e4
    subst e3 e4
    exact ⟨[], rfl, hT, .inr ⟨none, [], hS.one f d', rfl, trivial⟩⟩
  · have hb := kind_behind he hS hc1
    rw [List.cons_append, pOne] at h
    rw [List.cons_append, pOne, ← hk, ← ht, ← hcl]
    have leaf : ∀ (k : Nat) (x : List UInt8), SameO (some (.mk k x t.cls [] t.pos)) (some (.mk k x t.cls [] t'.pos)) := fun k x => .mk (fun h => by cases h) .nil
    split at h
    · next h1 =>
      rw [if_pos h1]
      by_cases h2 : kindT (T1 ++ [e]) = 2
      · rw [if_pos h2] at h
        rw [if_pos (hb.1 h2)]
        have e2 := Option.some.inj h
        injection e2 with e3 e4
        subst e3 e4
        exact ⟨t :: T1, rfl, hT, .inr ⟨none, t' :: T1', rfl, hc, trivial⟩⟩
      · rw [if_neg h2] at h
        rw [if_neg (fun h => h2 (hb.2 h))]
        have e2 := Option.some.inj h
        injection e2 with e3 e4
        subst e3 e4
        exact ⟨T1, rfl, hT.tail, .inr ⟨_, T1', rfl, hc1, leaf 5 t.text⟩⟩
    next h1 =>
    rw [if_neg h1]
    split at h
    · next h3 =>
      rw [if_pos h3]
      have e2 := Option.some.inj h
      injection e2 with e3 e4
      subst e3 e4
      exact ⟨T1, rfl, hT.tail, .inr ⟨_, T1', rfl, hc1, leaf 2 t.text⟩⟩
    next h3 =>
    rw [if_neg h3]
    split at h
    · next h4 =>
      rw [if_pos h4]
      have e2 := Option.some.inj h
      injection e2 with e3 e4
      subst e3 e4
      exact ⟨T1, rfl, hT.tail, .inr ⟨_, T1', rfl, hc1, leaf 3 t.text⟩⟩
    next h4 =>
    rw [if_neg h4]
    split at h
    · next h5 =>
      rw [if_pos h5]
      have e2 := Option.some.inj h
      injection e2 with e3 e4
      subst e3 e4
      exact ⟨T1, rfl, hT.tail, .inr ⟨_, T1', rfl, hc1, leaf 4 []⟩⟩
    next h5 =>
    rw [if_neg h5]
    split at h
    · next h6 =>
      rw [if_pos h6]
      by_cases h24 : d = 24
      · rw [if_pos h24] at h; cases h
      · rw [if_neg h24] at h
        cases e1 : pChoice f (d + 1) (T1 ++ [e]) with
        | none => rw [e1] at h; cases h
        | some x =>
          rw [e1] at h
          cases x with
          | err c x => cases h
          | ok n1 r1 =>
            simp only at h
            by_cases h41 : sgnOf r1 = [41]
            · rw [if_pos h41] at h
              have e2 := Option.some.inj h
              injection e2 with e3 e4
              subst e3
              by_cases h24' : d' = 24
              · rw [if_pos h24']
                obtain ⟨U, rfl, hU, _⟩ := ih.choice (d' := d + 1) hT.tail (rfl : T1.map bareT = T1.map bareT) (Nat.le_refl _) e1
                cases U with
                | nil => rw [List.nil_append, sgnOf, if_neg (by omega)] at h41; cases h41
                | cons u U =>
                  refine ⟨U, by rw [← e4]; rfl, hU.tail, .inl ⟨by omega, _, rfl⟩⟩
              · rw [if_neg h24']
                obtain ⟨U, rfl, hU, g⟩ := ih.choice (d' := d' + 1) hT.tail hc1 (by omega) e1
                cases U with
                | nil => rw [List.nil_append, sgnOf, if_neg (by omega)] at h41; cases h41
                | cons u U =>
                  refine ⟨U, by rw [← e4]; rfl, hU.tail, ?_⟩
                  rcases g with ⟨hdd, x, g⟩ | ⟨m, U', g, hcU, hs⟩
                  · exact .inl ⟨by omega, x, by rw [g]⟩
                  · obtain ⟨u', U2', rfl, hcU2, hsg⟩ : ∃ u' U2', U' = u' :: U2' ∧ U.map bareT = U2'.map bareT ∧ sgnOf (u :: U ++ [e]) = sgnOf (u' :: U2' ++ S) := by
                      rcases bare_cases hcU with ⟨h, _⟩ | ⟨u1, u', U1, U2', h1, rfl, k1, k2, _, k3⟩
                      · cases h
                      · injection h1 with h1 h2
                        subst h1 h2
                        exact ⟨u', U2', rfl, k3, by simp only [List.cons_append, sgnOf, k1, k2]⟩
                    refine .inr ⟨some m, U2', ?_, hcU2, hs⟩
                    rw [g]
                    simp only
                    rw [if_pos (by rw [← hsg]; exact h41)]
                    rfl
            · rw [if_neg h41] at h; cases h
    next h6 =>
    rw [if_neg h6]
    have e2 := Option.some.inj h
    injection e2 with e3 e4
    subst e3 e4
    exact ⟨t :: T1, rfl, hT, .inr ⟨none, t' :: T1', rfl, hc, trivial⟩⟩
theorem swap_all {e : Tok} {S : List Tok} (he : e.kind = 6) (hS : StopT S) : ∀ f, Swap f e S := by
  intro f
  induction f with
  | zero => exact ⟨fun _ _ _ h => by simp [pChoice] at h, fun _ _ _ _ _ h => by simp [pAlts] at h, fun _ _ _ _ h => by simp [pParts] at h, fun _ _ _ h => by simp [pPart] at h, fun _ _ _ h => by simp [pOne] at h⟩
  | succ f ih => exact ⟨fun a b c h => swap_choice ih a b c h, fun a b c g k h => swap_alts he hS ih a b c g k h, fun a b c g h => swap_parts ih a b c g h, fun a b c h => swap_part he hS ih a b c h, fun a b c h => swap_one he hS ih a b c h⟩
end Go.Proofs.YteohgaheockepaaDoor
