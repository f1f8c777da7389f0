/- A text that is written piece by piece is cut into the pieces' tokens: plain. | The text of a tree, in pieces; it is well formed: plain. -/
import Derived.Test.YtjlcoldnhbkcgaaGreatDoorG17
import Derived.Test.YtjlcoldnhbkcgaaGreatDoorG19
import Derived.Test.YtjlcoldnhbkcgaaGreatDoorG18
namespace Go.Proofs.YtjlcoldnhbkcgaaGreatDoor
open Go.RowKit

/-- A piece of a text: a blank, a line's end, a name, a sign, an arrow, a literal, a class. -/
inductive Pc where
  | sp
  | nl
  | nm (u : List UInt8)
  | sg (b : UInt8)
  | ar
  | lt (p : List UInt8)
  | cl (c : BitVec 256)
def Pc.tx : Pc → List UInt8
  | .sp => [32]
  | .nl => [10]
  | .nm u => u
  | .sg b => [b]
  | .ar => [60, 45]
  | .lt p => quoted p
  | .cl c => txt c
def Pc.co : Pc → List (Nat × List UInt8 × BitVec 256)
  | .sp => []
  | .nl => []
  | .nm u => [(1, u, 0)]
  | .sg b => [(5, [b], 0)]
  | .ar => [(2, [], 0)]
  | .lt p => [(3, p, 0)]
  | .cl c => [(4, [], c)]
def Pc.ok : Pc → Prop
  | .nm u => isName u = true
  | .sg b => isSign b.toNat = true
  | .lt p => p.length ≤ 255
  | _ => True
def txs : List Pc → List UInt8
  | [] => []
  | c :: l => c.tx ++ txs l
def cos : List Pc → List (Nat × List UInt8 × BitVec 256)
  | [] => []
  | c :: l => c.co ++ cos l
theorem txs_app (l m : List Pc) : txs (l ++ m) = txs l ++ txs m := by
  induction l with
  | nil => rfl
  | cons c l ih => rw [List.cons_append, txs, txs, ih, List.append_assoc]
theorem cos_app (l m : List Pc) : cos (l ++ m) = cos l ++ cos m := by
  induction l with
  | nil => rfl
  | cons c l ih => rw [List.cons_append, cos, cos, ih, List.append_assoc]
/-- No name goes on with that. -/
def StopB (u : List UInt8) : Prop := ∀ b r, u = b :: r → cont 1 b.toNat = false
def Good : List Pc → Prop
  | [] => True
  | c :: l => c.ok ∧ (∀ u, c = .nm u → StopB (txs l)) ∧ Good l
theorem cont_one {n b : Nat} (hn : 0 < n) : cont n b = cont 1 b := by
  have : (n != 0) = true := by simp; omega
  rw [cont, cont, this]
  rfl
theorem sign_byte {b : UInt8} (h : isSign b.toNat = true) : b = 47 ∨ b = 38 ∨ b = 33 ∨ b = 63 ∨ b = 42 ∨ b = 43 ∨ b = 40 ∨ b = 41 ∨ b = 46 := by
  simp only [isSign, Bool.or_eq_true, beq_iff_eq] at h
  have k : ∀ n : Nat, n < 256 → b.toNat = n → b = n.toUInt8 := fun n hn e => by
    rw [← UInt8.toNat_inj, e]
    simp
    omega
  rcases h with (((((((h | h) | h) | h) | h) | h) | h) | h) | h
  · exact .inl (k 47 (by decide) h)
  · exact .inr (.inl (k 38 (by decide) h))
  · exact .inr (.inr (.inl (k 33 (by decide) h)))
  · exact .inr (.inr (.inr (.inl (k 63 (by decide) h))))
  · exact .inr (.inr (.inr (.inr (.inl (k 42 (by decide) h)))))
  · exact .inr (.inr (.inr (.inr (.inr (.inl (k 43 (by decide) h))))))
  · exact .inr (.inr (.inr (.inr (.inr (.inr (.inl (k 40 (by decide) h)))))))
  · exact .inr (.inr (.inr (.inr (.inr (.inr (.inr (.inl (k 41 (by decide) h))))))))
  · exact .inr (.inr (.inr (.inr (.inr (.inr (.inr (.inr (k 46 (by decide) h))))))))
theorem name_zero {s : List UInt8} (h : cont 0 (byteAt s 0) = false) : nameLen s 0 = 0 := nameLen_is (fun j hj => by omega) (by simpa using h)
/-- A piece that is a token is read as it, alone. -/
theorem pc_tok {c : Pc} (h : c.ok) : (c = .sp ∨ c = .nl) ∨ ∃ k, 0 < c.tx.length ∧ tokAt c.tx 0 = .inr (k, c.tx.length) ∧ c.co = [core k] ∧ (k.kind = 1 → ∃ u, c = .nm u) ∧ byteAt c.tx 0 ≠ 35 ∧ isBlank (byteAt c.tx 0) = false := by
  cases c with
  | sp => exact .inl (.inl rfl)
  | nl => exact .inl (.inr rfl)
  | nm u =>
    right
    obtain ⟨h0, h1, h2⟩ := isName_spec h
    refine ⟨⟨1, u, 0, 0⟩, h0, ?_, rfl, fun _ => ⟨u, rfl⟩, ?_⟩
    · show tokAt u 0 = _
      unfold tokAt
      rw [h2, if_neg (by omega), if_pos h0]
      simp [Pc.tx]
    · have := (nameLen_spec u 0).1 0 (by omega)
      exact cont_letter this
  | sg b =>
    right
    refine ⟨⟨5, [b], 0, 0⟩, by simp [Pc.tx], ?_⟩
    rcases sign_byte h with rfl | rfl | rfl | rfl | rfl | rfl | rfl | rfl | rfl <;> exact ⟨by rfl, rfl, (fun e => by cases e), by decide, by decide⟩
  | ar => exact .inr ⟨⟨2, [], 0, 0⟩, by decide, by rfl, rfl, (fun e => by cases e), by decide, by decide⟩
  | lt p =>
    right
    have hq : quoted p = 39 :: quoR p := quoted_front p
    refine ⟨⟨3, p, 0, 0⟩, by show 0 < (quoted p).length; rw [hq]; simp, ?_, rfl, (fun e => by cases e), ?_, ?_⟩
    · show tokAt (quoted p) 0 = _
      rw [quoted_tok, if_pos (show p.length ≤ 255 from h)]
      rfl
    · show byteAt (quoted p) 0 ≠ 35
      rw [hq]; show (39 : UInt8).toNat ≠ 35; decide
    · show isBlank (byteAt (quoted p) 0) = false
      rw [hq]; rfl
  | cl c =>
    right
    have ht : txt c = 91 :: (rowsT (runs c) ++ [93]) := txt_rows c
    have h91 : byteAt (txt c) 0 = 91 := by rw [ht]; rfl
    refine ⟨⟨4, [], c, 0⟩, by show 0 < (txt c).length; rw [ht]; simp, ?_, rfl, (fun e => by cases e), ?_, ?_⟩
    · show tokAt (txt c) 0 = .inr (_, (txt c).length)
      have hn : nameLen (txt c) 0 = 0 := name_zero (by rw [h91]; rfl)
      have hp := parsed_txt c []
      rw [List.append_nil] at hp
      unfold tokAt
      rw [hn, if_neg (by decide), if_neg (by decide), h91, if_neg (by decide), if_neg (fun e => by simp at e), if_neg (by decide), if_pos rfl, List.drop_zero, hp]
      simp
    · show byteAt (txt c) 0 ≠ 35
      rw [h91]; decide
    · show isBlank (byteAt (txt c) 0) = false
      rw [h91]; rfl
theorem good_toks : ∀ (l : List Pc), Good l → ∀ (t : List UInt8) (q f : Nat) (acc : List Tok), t.drop q = txs l → q ≤ t.length → t.length < f + q →
    ∃ r, toksGo t f q acc = .inr (acc ++ r ++ [⟨6, [], 0, t.length⟩]) ∧ r.map core = cos l := by
  intro l
  induction l with
  | nil =>
    intro _ t q f acc hd hq hf
    have hl := congrArg List.length hd
    simp [txs] at hl
    obtain ⟨f, rfl⟩ : ∃ g, f = g + 1 := ⟨f - 1, by omega⟩
    exact ⟨[], by rw [toks_end (by omega)]; simp, rfl⟩
  | cons c l ih =>
    intro hg t q f acc hd hqt hf
    obtain ⟨hok, hst, hgl⟩ := hg
    rw [txs] at hd
    have hlen := congrArg List.length hd
    simp only [List.length_append, List.length_drop] at hlen
    rcases pc_tok hok with hb | ⟨k, h0, hk, hco, hkn, h35, hbl⟩
    · have key : ∀ b : UInt8, c.tx = [b] → isBlank b.toNat = true → b.toNat ≠ 35 → ∃ r, toksGo t f q acc = .inr (acc ++ r ++ [⟨6, [], 0, t.length⟩]) ∧ r.map core = cos l := by
        intro b hc hb hn
        rw [hc] at hd hlen
        have hin := drop_in hd
        obtain ⟨f, rfl⟩ : ∃ g, f = g + 1 := ⟨f - 1, by omega⟩
        rw [toksGo, if_neg (by omega), hin.2, if_neg hn, if_pos hb]
        exact ih hgl t (q + 1) f acc (drop_next hd) (by omega) (by omega)
      rcases hb with rfl | rfl
      · exact key 32 rfl (by rfl) (by decide)
      · exact key 10 rfl (by rfl) (by decide)
    · have hag : Agr c.tx t 0 q c.tx.length := by
        intro j hj
        rw [← drop_byte, hd, Nat.zero_add]
        unfold byteAt
        rw [List.getElem?_append_left (by omega)]
      have hd2 : t.drop (q + c.tx.length) = txs l := drop_more hd
      have hq : q < t.length := by omega
      have htok := tok_agr h0 hk hag (by
        intro h1
        obtain ⟨u, rfl⟩ := hkn h1
        have hs := hst u rfl
        unfold Ends
        rw [Nat.sub_zero, cont_one h0]
        cases hx : txs l with
        | nil =>
          rw [hx] at hd2
          have hle := congrArg List.length hd2
          simp at hle
          rw [byteAt_ge (by omega)]
          rfl
        | cons b r =>
          rw [hx] at hd2
          rw [(drop_in hd2).2]
          exact hs b r hx)
      obtain ⟨f, rfl⟩ : ∃ g, f = g + 1 := ⟨f - 1, by omega⟩
      have hh := hag.here (by omega)
      rw [Nat.sub_zero] at htok
      rw [toksGo, if_neg (by omega), hh, if_neg h35, hbl, htok]
      obtain ⟨r, r1, r2⟩ := ih hgl t (q + c.tx.length) f (acc ++ [⟨k.kind, k.text, k.cls, q⟩]) hd2 (by omega) (by omega)
      refine ⟨⟨k.kind, k.text, k.cls, q⟩ :: r, ?_, ?_⟩
      · simp only [Bool.false_eq_true, if_false]
        rw [r1]
        simp
      · rw [List.map_cons, r2, cos, hco]
        rfl
/-- The tokens of such a text. -/
theorem good_lexed {l : List Pc} (h : Good l) (h8 : (txs l).length ≤ 8192) : ∃ r, lexed (txs l) = .inr (r ++ [⟨6, [], 0, (txs l).length⟩]) ∧ r.map core = cos l := by
  obtain ⟨r, h1, h2⟩ := good_toks l h (txs l) 0 (2 * (txs l).length + 2) [] (by simp) (by omega) (by omega)
  exact ⟨r, lexed_toks h8 (by rw [toks, h1]; simp), h2⟩
end Go.Proofs.YtjlcoldnhbkcgaaGreatDoor
namespace Go.Proofs.YtjlcoldnhbkcgaaGreatDoor
open Go.RowKit

/-- A tree that may be printed (how many parentheses are open is not asked). -/
inductive OkT : Tr → Prop
  | empty {p : Int} : OkT (.mk 1 [] 0 [] p)
  | lit {t : List UInt8} {p : Int} : t.length ≤ 255 → OkT (.mk 2 t 0 [] p)
  | set {c : BitVec 256} {p : Int} : OkT (.mk 3 [] c [] p)
  | any {p : Int} : OkT (.mk 4 [] 0 [] p)
  | ref {t : List UInt8} {p : Int} : isName t = true → OkT (.mk 5 t 0 [] p)
  | seq {l : List Tr} {p : Int} : 1 < l.length → (∀ n ∈ l, OkT n) → OkT (.mk 6 [] 0 l p)
  | alt {l : List Tr} {p : Int} : 1 < l.length → (∀ n ∈ l, OkT n) → OkT (.mk 7 [] 0 l p)
  | post {k p : Int} {x : Tr} : k = 8 ∨ k = 9 ∨ k = 10 → OkT x → OkT (.mk k [] 0 [x] p)
  | pre {k p : Int} {x : Tr} : k = 11 ∨ k = 12 → OkT x → OkT (.mk k [] 0 [x] p)
def Tr.kind : Tr → Int
  | .mk k _ _ _ _ => k
/-- How a part must stand. -/
def rankT (k : Int) : Nat := if k = 7 then 0 else if k = 6 then 1 else if k = 11 ∨ k = 12 then 2 else if k = 8 ∨ k = 9 ∨ k = 10 then 3 else 4
def postB (k : Int) : UInt8 := if k = 8 then 63 else if k = 9 then 42 else 43
def preB (k : Int) : UInt8 := if k = 11 then 38 else 33
/-- A part that must have that rank at least. -/
def paren (r k : Nat) (l : List Pc) : List Pc := if r ≤ k then l else .sg 40 :: (l ++ [.sg 41])
mutual
/-- The pieces of an expression's text. -/
def pcT : Tr → List Pc
  | .mk k t c l _ => if k = 1 then [.sg 40, .sg 41] else if k = 2 then [.lt t] else if k = 3 then [.cl c] else if k = 4 then [.sg 46] else if k = 5 then [.nm t]
    else if k = 7 then pcR [.sp, .sg 47, .sp] 1 true l else if k = 6 then pcR [.sp] 2 true l else if k = 11 ∨ k = 12 then .sg (preB k) :: pcR [] 3 true l else pcR [] 4 true l ++ [.sg (postB k)]
/-- Parts with pieces between each two. -/
def pcR (sep : List Pc) (r : Nat) (first : Bool) : List Tr → List Pc
  | [] => []
  | n :: l => (if first then [] else sep) ++ (paren r (rankT n.kind) (pcT n) ++ pcR sep r false l)
end
def pcQ (r : Nat) (n : Tr) : List Pc := paren r (rankT n.kind) (pcT n)
theorem pcR_cons (sep : List Pc) (r : Nat) (first : Bool) (n : Tr) (l : List Tr) : pcR sep r first (n :: l) = (if first then [] else sep) ++ (pcQ r n ++ pcR sep r false l) := by rw [pcR, pcQ]
theorem pcR_nil (sep : List Pc) (r : Nat) (first : Bool) : pcR sep r first [] = [] := by rw [pcR]
theorem stop_sign {b : UInt8} (h : isSign b.toNat = true) (u : List UInt8) : StopB (b :: u) := by
  intro b' r e
  injection e with e1 e2
  subst e1
  rcases sign_byte h with rfl | rfl | rfl | rfl | rfl | rfl | rfl | rfl | rfl <;> rfl
theorem stop_blank (u : List UInt8) : StopB (32 :: u) := by
  intro b r e
  injection e with e1 e2
  subst e1
  rfl
theorem good_sign {b : UInt8} {l : List Pc} (h : isSign b.toNat = true) (hl : Good l) : Good (.sg b :: l) := ⟨h, fun u e => (by cases e), hl⟩
theorem txs_sign (b : UInt8) (l : List Pc) : txs (.sg b :: l) = b :: txs l := rfl
theorem good_paren {r k : Nat} {l X : List Pc} (h : ∀ Y, Good Y → StopB (txs Y) → Good (l ++ Y)) (hX : Good X) (hs : StopB (txs X)) : Good (paren r k l ++ X) := by
  unfold paren
  split
  · exact h X hX hs
  · rw [List.cons_append, List.append_assoc]
    exact good_sign (by rfl) (h _ (good_sign (by rfl) hX) (by rw [List.cons_append, txs_sign]; exact stop_sign (by rfl) _))
/-- What may stand between parts. -/
def SepOk (sep : List Pc) : Prop := ∀ X, Good X → Good (sep ++ X) ∧ StopB (txs (sep ++ X))
theorem sep_sp : SepOk [.sp] := fun X hX => ⟨⟨trivial, fun u e => (by cases e), hX⟩, stop_blank _⟩
theorem sep_alt : SepOk [.sp, .sg 47, .sp] := fun X hX => ⟨⟨trivial, fun u e => (by cases e), good_sign (by rfl) ⟨trivial, fun u e => (by cases e), hX⟩⟩, stop_blank _⟩
theorem good_row {sep : List Pc} {r : Nat} : ∀ (l : List Tr) (first : Bool), (∀ n ∈ l, ∀ X, Good X → StopB (txs X) → Good (pcT n ++ X)) → SepOk sep ∨ (first = true ∧ l.length ≤ 1) → ∀ X, Good X → StopB (txs X) → Good (pcR sep r first l ++ X) ∧ (first = false → StopB (txs (pcR sep r first l ++ X))) := by
  intro l
  induction l with
  | nil => intro first _ _ X hX hs; rw [pcR_nil]; exact ⟨hX, fun _ => hs⟩
  | cons n l ih =>
    intro first hl hsep X hX hs
    have h1 : Good (pcR sep r false l ++ X) ∧ StopB (txs (pcR sep r false l ++ X)) := by
      rcases hsep with h | ⟨_, h⟩
      · have := ih false (fun m hm => hl m (List.mem_cons_of_mem _ hm)) (.inl h) X hX hs
        exact ⟨this.1, this.2 rfl⟩
      · obtain rfl : l = [] := List.eq_nil_of_length_eq_zero (by simpa using h)
        rw [pcR_nil]
        exact ⟨hX, hs⟩
    have h2 : Good (pcQ r n ++ (pcR sep r false l ++ X)) := good_paren (fun Y hY hsY => hl n List.mem_cons_self Y hY hsY) h1.1 h1.2
    rw [pcR_cons, List.append_assoc, List.append_assoc]
    cases first with
    | true => exact ⟨h2, fun e => (by cases e)⟩
    | false =>
      rcases hsep with h | ⟨h, _⟩
      · have := h _ h2
        exact ⟨this.1, fun _ => this.2⟩
      · cases h
theorem good_tree {n : Tr} (h : OkT n) : ∀ X, Good X → StopB (txs X) → Good (pcT n ++ X) := by
  induction h with
  | empty => intro X hX _; exact good_sign (by rfl) (good_sign (by rfl) hX)
  | lit h => intro X hX _; exact ⟨h, fun u e => (by cases e), hX⟩
  | set => intro X hX _; exact ⟨trivial, fun u e => (by cases e), hX⟩
  | any => intro X hX _; exact good_sign (by rfl) hX
  | ref h => intro X hX hs; exact ⟨h, fun u _ => hs, hX⟩
  | seq _ _ ih => intro X hX hs; exact (good_row _ true ih (.inl sep_sp) X hX hs).1
  | alt _ _ ih => intro X hX hs; exact (good_row _ true ih (.inl sep_alt) X hX hs).1
  | @post k p x hk _ ih =>
    intro X hX hs
    have hb : isSign (postB k).toNat = true := by rcases hk with rfl | rfl | rfl <;> rfl
    have e : pcT (.mk k [] 0 [x] p) = pcR [] 4 true [x] ++ [.sg (postB k)] := by rcases hk with rfl | rfl | rfl <;> (rw [pcT]; rfl)
    rw [e, List.append_assoc]
    exact (good_row [x] true (fun m hm => by obtain rfl := List.mem_singleton.1 hm; exact ih) (.inr ⟨rfl, Nat.le_refl _⟩) _ (good_sign hb hX) (stop_sign hb _)).1
  | @pre k p x hk _ ih =>
    intro X hX hs
    have hb : isSign (preB k).toNat = true := by rcases hk with rfl | rfl <;> rfl
    have e : pcT (.mk k [] 0 [x] p) = .sg (preB k) :: pcR [] 3 true [x] := by rcases hk with rfl | rfl <;> (rw [pcT]; rfl)
    rw [e, List.cons_append]
    exact good_sign hb (good_row [x] true (fun m hm => by obtain rfl := List.mem_singleton.1 hm; exact ih) (.inr ⟨rfl, Nat.le_refl _⟩) X hX hs).1
end Go.Proofs.YtjlcoldnhbkcgaaGreatDoor
