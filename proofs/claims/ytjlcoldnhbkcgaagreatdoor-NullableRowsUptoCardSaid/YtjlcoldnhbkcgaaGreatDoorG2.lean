/- What is read at a place is read alike wherever the same bytes stand: plain. | The tokens of two sources, one behind the other in lines of their own: plain. -/
import Derived.Test.YtjlcoldnhbkcgaaGreatDoorG1
namespace Go.Proofs.YtjlcoldnhbkcgaaGreatDoor
open Go.RowKit

/-- From q on stand in t the bytes that stand in s from p on, up to N. -/
def Agr (s t : List UInt8) (p q N : Nat) : Prop := ∀ j, p + j < N → byteAt t (q + j) = byteAt s (p + j)
theorem Agr.step {s t : List UInt8} {p q N : Nat} (h : Agr s t p q N) (k : Nat) : Agr s t (p + k) (q + k) N := fun j hj => by
  have := h (k + j) (by omega)
  rwa [← Nat.add_assoc, ← Nat.add_assoc] at this
theorem Agr.mono {s t : List UInt8} {p q N M : Nat} (h : Agr s t p q N) (hM : M ≤ N) : Agr s t p q M := fun j hj => h j (by omega)
theorem Agr.here {s t : List UInt8} {p q N : Nat} (h : Agr s t p q N) (hp : p < N) : byteAt t q = byteAt s p := by simpa using h 0 (by omega)
theorem Agr.next {s t : List UInt8} {p q N : Nat} (h : Agr s t p q N) (hp : p + 1 < N) : byteAt t (q + 1) = byteAt s (p + 1) := h 1 hp
theorem Agr.upto {s t : List UInt8} {p q N n : Nat} (h : Agr s t p q N) (hn : p ≤ n) : Agr s t n (q + (n - p)) N := by
  have := h.step (n - p)
  rwa [Nat.add_sub_cancel' hn] at this
theorem low_agr {s t : List UInt8} {h a b c n : Nat} (e : lowAt s h a = .inr (c, n)) (g : Agr s t a b n) : lowAt t h b = .inr (c, b + (n - a)) := by
  unfold lowAt at *
  split at e
  · cases e
  · next hd =>
    simp at e
    rw [g.here (by omega), if_neg hd, e.1, ← e.2]
    simp
theorem hex_agr {s t : List UInt8} {a b c n : Nat} (e : hexAt s a = .inr (c, n)) (g : Agr s t a b n) : hexAt t b = .inr (c, b + (n - a)) := by
  have hb := hexAt_bd e
  unfold hexAt at *
  split at e
  · cases e
  · next hd =>
    rw [g.here (by omega), if_neg hd, low_agr e (g.step 1)]
    congr 2
    omega
theorem esc_agr {s t : List UInt8} {a b c n : Nat} (e : escAt s a = .inr (c, n)) (g : Agr s t a b n) : escAt t b = .inr (c, b + (n - a)) := by
  have hb := escAt_bd e
  unfold escAt at *
  rw [g.here (by omega)]
  split at e
  · next h => rw [if_pos h]; simp at e ⊢; omega
  next g1 =>
  rw [if_neg g1]
  split at e
  · next h => rw [if_pos h]; simp at e ⊢; omega
  next g2 =>
  rw [if_neg g2]
  split at e
  · next h => rw [if_pos h]; simp at e ⊢; omega
  next g3 =>
  rw [if_neg g3]
  split at e
  · next h => rw [if_pos h]; simp at e ⊢; omega
  next g4 =>
  rw [if_neg g4]
  split at e
  · next h =>
    have b2 := hexAt_bd e
    rw [if_pos h, hex_agr e (g.step 1)]
    congr 2
    omega
  · cases e
theorem sgn_agr {s t : List UInt8} {a b c n : Nat} (e : sgnAt s a = .inr (c, n)) (g : Agr s t a b n) : sgnAt t b = .inr (c, b + (n - a)) := by
  have hb := sgnAt_bd e
  unfold sgnAt at *
  rw [g.here (by omega)]
  split at e
  · next h =>
    have b2 := escAt_bd e
    rw [if_pos h, esc_agr e (g.step 1)]
    congr 2
    omega
  next g1 =>
  rw [if_neg g1]
  split at e
  · cases e
  · next h => rw [if_neg h]; simp at e ⊢; omega
theorem hi_agr {s t : List UInt8} {lo a b c n : Nat} (e : hiAt s lo a = .inr (c, n)) (han : a ≤ n) (g : Agr s t a b (n + 1)) : hiAt t lo b = .inr (c, b + (n - a)) := by
  unfold hiAt at *
  rw [g.here (by omega)]
  split at e
  · next h =>
    have b2 := sgnAt_bd e
    rw [if_pos h, sgn_agr e ((g.step 1).mono (by omega))]
    congr 2
    omega
  · next h => rw [if_neg h]; simp at e ⊢; omega
theorem mem_agr {s t : List UInt8} {a b n : Nat} {m : BitVec 256} (e : memAt s a = .inr (m, n)) (g : Agr s t a b (n + 1)) : memAt t b = .inr (m, b + (n - a)) := by
  unfold memAt at *
  split at e
  · cases e
  next lo p h1 =>
  have b1 := sgnAt_bd h1
  split at e
  · cases e
  next hi q h2 =>
  have b2 := hiAt_bd (by omega) (by omega) h2
  split at e
  · cases e
  next h3 =>
  simp at e
  obtain ⟨e1, e2⟩ := e
  subst e1 e2
  rw [sgn_agr h1 (g.mono (by omega))]
  simp only
  rw [hi_agr h2 (by omega) (g.upto (by omega))]
  simp only
  rw [if_neg h3]
  congr 2
  omega
theorem mems_agr {s t : List UInt8} : ∀ {f g a b n : Nat} {c m : BitVec 256}, memsAt s f a c = .inr (m, n) → Agr s t a b n → n ≤ g + a → memsAt t g b c = .inr (m, b + (n - a)) := by
  intro f
  induction f with
  | zero => intro g a b n c m h; cases h
  | succ f ih =>
    intro g a b n c m h ha hg
    have hb := memsAt_bd h
    obtain ⟨g, rfl⟩ : ∃ j, g = j + 1 := ⟨g - 1, by omega⟩
    rw [memsAt] at h ⊢
    rw [ha.here (by omega)]
    split at h
    · next h93 => rw [if_pos h93]; simp at h ⊢; exact ⟨h.1, by omega⟩
    next h93 =>
    rw [if_neg h93]
    split at h
    · cases h
    next m' n' e =>
    have b1 := memAt_bd e
    have b2 := memsAt_bd h
    rw [mem_agr e (ha.mono (by omega))]
    simp only
    rw [ih h (ha.upto (by omega)) (by omega)]
    congr 2
    omega
theorem agr_len {s t : List UInt8} {N : Nat} (h : Agr s t 0 0 N) (h0 : 0 < N) (hN : N ≤ s.length) : N ≤ t.length := by
  have h1 := h (N - 1) (by omega)
  rw [Nat.zero_add] at h1
  have h2 := byteAt_bd (s := s) (a := N - 1) (by omega)
  have := byteAt_in (s := t) (a := N - 1) (by omega)
  omega
theorem parsed_agr {s t : List UInt8} {c : BitVec 256} {n : Nat} (h : parsed s = .inr (c, n)) (g : Agr s t 0 0 n) : parsed t = .inr (c, n) := by
  have hb := parsed_bd h
  have hl := agr_len g (by omega) hb.2
  unfold parsed at *
  rw [g.here (by omega), g.next (by omega)]
  split at h
  · next h0 =>
    rw [if_pos h0]
    split at h
    · next h1 =>
      rw [if_pos h1]
      split at h
      · cases h
      · next e =>
        simp at h
        obtain ⟨h2, h3⟩ := h
        subst h2 h3
        have b2 := memsAt_bd e
        rw [mems_agr (g := t.length + 1) e (g.step 2) (by omega)]
        simp only
        congr 2
        omega
    · next h1 =>
      have b2 := memsAt_bd h
      rw [if_neg h1, mems_agr (g := t.length + 1) h (g.step 1) (by omega)]
      congr 2
      omega
  · cases h
theorem lesc_agr {s t : List UInt8} {a b c n : Nat} (e : lescAt s a = .inr (c, n)) (g : Agr s t a b n) : lescAt t b = .inr (c, b + (n - a)) := by
  have hb := lescAt_bd e
  unfold lescAt at *
  rw [g.here (by omega)]
  split at e
  · next h => rw [if_pos h]; simp at e ⊢; omega
  next g1 =>
  rw [if_neg g1]
  split at e
  · next h => rw [if_pos h]; simp at e ⊢; omega
  next g2 =>
  rw [if_neg g2]
  split at e
  · next h => rw [if_pos h]; simp at e ⊢; omega
  next g3 =>
  rw [if_neg g3]
  split at e
  · next h => rw [if_pos h]; simp at e ⊢; omega
  next g4 =>
  rw [if_neg g4]
  split at e
  · next h =>
    have b2 := hexAt_bd e
    rw [if_pos h, hex_agr e (g.step 1)]
    congr 2
    omega
  · cases e
theorem lch_agr {s t : List UInt8} {a b c n : Nat} (e : lchAt s a = .inr (c, n)) (g : Agr s t a b n) : lchAt t b = .inr (c, b + (n - a)) := by
  have hb := lchAt_bd e
  unfold lchAt at *
  rw [g.here (by omega)]
  split at e
  · next h =>
    have b2 := lescAt_bd e
    rw [if_pos h, lesc_agr e (g.step 1)]
    congr 2
    omega
  next g1 =>
  rw [if_neg g1]
  split at e
  · cases e
  · next h => rw [if_neg h]; simp at e ⊢; omega
theorem lit_agr {s t : List UInt8} {q st st' : Nat} : ∀ {f g a b n : Nat} {l m : List UInt8}, litGo s q st f a l = .inr (m, n) → Agr s t a b n → n ≤ g + a → litGo t q st' g b l = .inr (m, b + (n - a)) := by
  intro f
  induction f with
  | zero => intro g a b n l m h; cases h
  | succ f ih =>
    intro g a b n l m h ha hg
    have hb := litGo_bd h
    obtain ⟨g, rfl⟩ : ∃ j, g = j + 1 := ⟨g - 1, by omega⟩
    have hbt : b < t.length := byteAt_in (by rw [ha.here (by omega)]; exact byteAt_bd (by omega))
    rw [litGo] at h ⊢
    rw [if_neg (by omega), ha.here (by omega)]
    split at h
    · cases h
    next hl =>
    split at h
    · next hq => rw [if_pos hq]; simp at h ⊢; exact ⟨h.1, by omega⟩
    next hq =>
    rw [if_neg hq]
    split at h
    · cases h
    next c k e =>
    have b1 := lchAt_bd e
    split at h
    · cases h
    next h5 =>
    have b2 := litGo_bd h
    rw [lch_agr e (ha.mono (by omega))]
    simp only
    rw [if_neg h5, ih h (ha.upto (by omega)) (by omega)]
    congr 2
    omega
theorem drop_byte (s : List UInt8) (a j : Nat) : byteAt (s.drop a) j = byteAt s (a + j) := by
  unfold byteAt; rw [List.getElem?_drop]
/-- No byte behind the name continues it. -/
def Ends (t : List UInt8) (q n : Nat) : Prop := cont n (byteAt t (q + n)) = false
theorem name_agr {s t : List UInt8} {a b : Nat} (g : Agr s t a b (a + nameLen s a)) (h : Ends t b (nameLen s a)) : nameLen t b = nameLen s a := by
  apply nameLen_is
  · intro j hj
    rw [g j (by omega)]
    exact (nameLen_spec s a).1 j hj
  · exact h
theorem take_agr {s t : List UInt8} {a b n : Nat} (g : Agr s t a b (a + n)) (hn : a + n ≤ s.length) : (t.drop b).take n = (s.drop a).take n := by
  apply List.ext_getElem?
  intro i
  rw [List.getElem?_take, List.getElem?_take, List.getElem?_drop, List.getElem?_drop]
  split
  · next hi =>
    have h := g i (by omega)
    have h1 := byteAt_bd (s := s) (a := a + i) (by omega)
    have h2 := byteAt_in (s := t) (a := b + i) (by omega)
    rw [byteAt_lt h2, byteAt_lt (show a + i < s.length by omega)] at h
    rw [List.getElem?_eq_getElem h2, List.getElem?_eq_getElem (show a + i < s.length by omega), UInt8.toNat_inj.1 h]
  · rfl
/-- A token is read alike wherever the same bytes stand; behind a name stands nothing that goes on with it. -/
theorem tok_agr {s t : List UInt8} {a b n : Nat} {k : Tok} (ha : a < s.length) (e : tokAt s a = .inr (k, n)) (g : Agr s t a b n) (hend : k.kind = 1 → Ends t b (n - a)) :
    tokAt t b = .inr (⟨k.kind, k.text, k.cls, b⟩, b + (n - a)) := by
  have hb := tokAt_bd ha e
  have hin := nameLen_in s a (by omega)
  have hbt : b < t.length := byteAt_in (by rw [g.here (by omega)]; exact byteAt_bd (by omega))
  have hn0 : nameLen s a = 0 → nameLen t b = 0 := by
    intro h0
    apply nameLen_is
    · intro j hj; omega
    · have := (nameLen_spec s a).2
      rw [h0] at this
      rw [Nat.add_zero, g.here (by omega)]
      exact this
  unfold tokAt at *
  split at e
  · cases e
  next g1 =>
  split at e
  · next h =>
    simp at e
    obtain ⟨e1, e2⟩ := e
    subst e1 e2
    have hE := hend rfl
    rw [Nat.add_sub_cancel_left] at hE
    rw [name_agr g hE, if_neg g1, if_pos h, take_agr g hin]
    simp
  next g2 =>
  have h0 := hn0 (by omega)
  rw [h0, if_neg (by decide), if_neg (by decide), g.here (by omega)]
  split at e
  · next h =>
    simp at e
    obtain ⟨e1, e2⟩ := e
    subst e1 e2
    rw [if_pos h]
    simp
  next g3 =>
  rw [if_neg g3]
  split at e
  · next h =>
    simp at e
    obtain ⟨e1, e2⟩ := e
    subst e1 e2
    rw [if_pos ⟨h.1, by rw [g.next (by omega)]; exact h.2⟩]
    simp
  next g4 =>
  split at e
  · next h =>
    rw [if_neg (fun h4 => by omega), if_pos h]
    split at e
    · cases e
    · next l m hl =>
      simp at e
      obtain ⟨e1, e2⟩ := e
      subst e1 e2
      have b2 := litGo_bd hl
      have hm : b + (m - a) ≤ t.length := by
        have h1 := g (m - a - 1) (by omega)
        have h2 := byteAt_bd (s := s) (a := a + (m - a - 1)) (by omega)
        have := byteAt_in (s := t) (a := b + (m - a - 1)) (by omega)
        omega
      rw [lit_agr (st' := b) (g := t.length + 1) hl (g.step 1) (by omega)]
      simp only
      congr 2
      omega
  next g5 =>
  split at e
  · next h =>
    rw [if_neg (fun h4 => by omega), if_neg g5, if_pos h]
    split at e
    · cases e
    · next c m hc =>
      simp at e
      obtain ⟨e1, e2⟩ := e
      subst e1 e2
      rw [parsed_agr (t := t.drop b) hc (fun j hj => by rw [Nat.zero_add, drop_byte, drop_byte]; exact g j (by omega))]
      simp
  · cases e
end Go.Proofs.YtjlcoldnhbkcgaaGreatDoor
namespace Go.Proofs.YtjlcoldnhbkcgaaGreatDoor
open Go.RowKit

theorem byteAt_sh (p l : List UInt8) (a : Nat) : byteAt (p ++ l) (p.length + a) = byteAt l a := by
  unfold byteAt; rw [List.getElem?_append_right (by omega), Nat.add_sub_cancel_left]
theorem low_sh {p l : List UInt8} {h a c n : Nat} (e : lowAt l h a = .inr (c, n)) : lowAt (p ++ l) h (p.length + a) = .inr (c, p.length + n) := by
  unfold lowAt at *
  rw [byteAt_sh]
  split at e
  · cases e
  · next hd => rw [if_neg hd]; simp at e ⊢; omega
theorem hex_sh {p l : List UInt8} {a c n : Nat} (e : hexAt l a = .inr (c, n)) : hexAt (p ++ l) (p.length + a) = .inr (c, p.length + n) := by
  unfold hexAt at *
  rw [byteAt_sh]
  split at e
  · cases e
  · next hd => rw [if_neg hd]; exact low_sh e
theorem lesc_sh {p l : List UInt8} {a c n : Nat} (e : lescAt l a = .inr (c, n)) : lescAt (p ++ l) (p.length + a) = .inr (c, p.length + n) := by
  unfold lescAt at *
  rw [byteAt_sh]
  split at e
  · next h => rw [if_pos h]; simp at e ⊢; omega
  next g1 =>
  rw [if_neg g1]
  split at e
  · next h => rw [if_pos h]; simp at e ⊢; omega
  next g2 =>
  rw [if_neg g2]
  split at e
  · next h => rw [if_pos h]; simp at e ⊢; omega
  next g3 =>
  rw [if_neg g3]
  split at e
  · next h => rw [if_pos h]; simp at e ⊢; omega
  next g4 =>
  rw [if_neg g4]
  split at e
  · next h => rw [if_pos h]; exact hex_sh e
  · cases e
theorem lch_sh {p l : List UInt8} {a c n : Nat} (e : lchAt l a = .inr (c, n)) : lchAt (p ++ l) (p.length + a) = .inr (c, p.length + n) := by
  unfold lchAt at *
  rw [byteAt_sh]
  split at e
  · next h => rw [if_pos h]; exact lesc_sh e
  next g1 =>
  rw [if_neg g1]
  split at e
  · cases e
  · next h => rw [if_neg h]; simp at e ⊢; omega
theorem lit_sh {p l : List UInt8} {q st st' : Nat} : ∀ {f g a n : Nat} {acc m : List UInt8}, litGo l q st f a acc = .inr (m, n) → f ≤ g → litGo (p ++ l) q st' g (p.length + a) acc = .inr (m, p.length + n) := by
  intro f
  induction f with
  | zero => intro g a n acc m h; cases h
  | succ f ih =>
    intro g a n acc m h hg
    obtain ⟨g, rfl⟩ : ∃ j, g = j + 1 := ⟨g - 1, by omega⟩
    rw [litGo] at h ⊢
    split at h
    · cases h
    next hl =>
    rw [if_neg (by rw [List.length_append]; omega), byteAt_sh]
    split at h
    · next hq => rw [if_pos hq]; simp at h ⊢; exact ⟨h.1, by omega⟩
    next hq =>
    rw [if_neg hq]
    split at h
    · cases h
    next c k e =>
    rw [lch_sh e]
    simp only
    split at h
    · cases h
    · next h5 => rw [if_neg h5]; exact ih h (by omega)
theorem name_sh (p l : List UInt8) (a : Nat) : nameLen (p ++ l) (p.length + a) = nameLen l a := by
  have h := nameLen_spec l a
  apply nameLen_is
  · intro j hj
    rw [show p.length + a + j = p.length + (a + j) by omega, byteAt_sh]
    exact h.1 j hj
  · rw [show p.length + a + nameLen l a = p.length + (a + nameLen l a) by omega, byteAt_sh]
    exact h.2
/-- A token further on. -/
def shTok (k : Nat) (t : Tok) : Tok := ⟨t.kind, t.text, t.cls, k + t.pos⟩
theorem drop_sh (p l : List UInt8) (a : Nat) : (p ++ l).drop (p.length + a) = l.drop a := by
  rw [List.drop_append, List.drop_eq_nil_of_le (by omega), List.nil_append, Nat.add_sub_cancel_left]
theorem tok_sh {p l : List UInt8} {a n : Nat} {t : Tok} (e : tokAt l a = .inr (t, n)) : tokAt (p ++ l) (p.length + a) = .inr (shTok p.length t, p.length + n) := by
  unfold tokAt at *
  rw [name_sh, byteAt_sh, drop_sh, show p.length + a + 1 = p.length + (a + 1) by omega, byteAt_sh]
  split at e
  · cases e
  next g1 =>
  rw [if_neg g1]
  split at e
  · next h => rw [if_pos h]; simp at e ⊢; obtain ⟨e1, e2⟩ := e; subst e1; exact ⟨rfl, by omega⟩
  next g2 =>
  rw [if_neg g2]
  split at e
  · next h => rw [if_pos h]; simp at e ⊢; obtain ⟨e1, e2⟩ := e; subst e1; exact ⟨rfl, by omega⟩
  next g3 =>
  rw [if_neg g3]
  split at e
  · next h => rw [if_pos h]; simp at e ⊢; obtain ⟨e1, e2⟩ := e; subst e1; exact ⟨rfl, by omega⟩
  next g4 =>
  rw [if_neg g4]
  split at e
  · next h =>
    rw [if_pos h]
    split at e
    · cases e
    · next m k hl =>
      rw [lit_sh (st' := p.length + a) hl (by rw [List.length_append]; omega)]
      simp at e ⊢; obtain ⟨e1, e2⟩ := e; subst e1; exact ⟨rfl, by omega⟩
  next g5 =>
  rw [if_neg g5]
  split at e
  · next h =>
    rw [if_pos h]
    split at e
    · cases e
    · next c k hc => simp at e ⊢; obtain ⟨e1, e2⟩ := e; subst e1; exact ⟨rfl, by omega⟩
  · cases e
theorem note_sh (p l : List UInt8) (a : Nat) : noteEnd (p ++ l) (p.length + a) = p.length + noteEnd l a := by
  unfold noteEnd
  rw [drop_sh]
  split
  · omega
  · simp
theorem toks_front {s : List UInt8} : ∀ {f a : Nat} {l r : List Tok}, toksGo s f a l = .inr r → ∃ r', r = l ++ r' := by
  intro f
  induction f with
  | zero => intro a l r h; cases h
  | succ f ih =>
    intro a l r h
    rw [toksGo] at h
    split at h
    · exact ⟨_, (Sum.inr.inj h).symm⟩
    split at h
    · exact ih h
    split at h
    · exact ih h
    split at h
    · cases h
    · obtain ⟨r', hr⟩ := ih h
      exact ⟨_ :: r', by rw [hr, List.append_assoc]; rfl⟩
theorem toks_sh {p l : List UInt8} : ∀ {f g a : Nat} {acc acc' r : List Tok}, toksGo l f a acc = .inr (acc ++ r) → f ≤ g → toksGo (p ++ l) g (p.length + a) acc' = .inr (acc' ++ r.map (shTok p.length)) := by
  intro f
  induction f with
  | zero => intro g a acc acc' r h; cases h
  | succ f ih =>
    intro g a acc acc' r h hg
    obtain ⟨g, rfl⟩ : ∃ j, g = j + 1 := ⟨g - 1, by omega⟩
    rw [toksGo] at h ⊢
    rw [byteAt_sh, List.length_append]
    by_cases h1 : l.length ≤ a
    · rw [if_pos h1] at h
      rw [if_pos (by omega)]
      have e := List.append_cancel_left (Sum.inr.inj h)
      rw [← e]
      rfl
    rw [if_neg h1] at h
    rw [if_neg (by omega)]
    by_cases h2 : byteAt l a = 35
    · rw [if_pos h2] at h ⊢
      rw [note_sh]
      exact ih h (by omega)
    rw [if_neg h2] at h ⊢
    cases h3 : isBlank (byteAt l a)
    · rw [h3, if_neg (by decide)] at h
      rw [if_neg (by decide)]
      split at h
      · cases h
      · next t n e =>
        rw [tok_sh e]
        simp only
        obtain ⟨r', hr⟩ : ∃ r', r = t :: r' := by
          obtain ⟨r2, e2⟩ := toks_front h
          rw [List.append_assoc] at e2
          exact ⟨r2, List.append_cancel_left e2⟩
        subst hr
        have h' : toksGo l f n (acc ++ [t]) = .inr (acc ++ [t] ++ r') := by rw [h]; simp
        rw [ih (acc' := acc' ++ [shTok p.length t]) h' (by omega)]
        simp
    · rw [h3, if_pos rfl] at h
      rw [if_pos rfl, show p.length + a + 1 = p.length + (a + 1) by omega]
      exact ih h (by omega)
/-- The tokens of the first one, and behind them those of what follows. -/
theorem toks_go_ext {s x : List UInt8} : ∀ {f g a : Nat} {acc r : List Tok}, toksGo s f a acc = .inr r → a ≤ s.length → s.length + 2 * x.length + 4 ≤ g + a →
    ∃ r' g', r = r' ++ [⟨6, [], 0, s.length⟩] ∧ toksGo (s ++ 10 :: x) g a acc = toksGo (s ++ 10 :: x) g' s.length r' ∧ 2 * x.length + 4 ≤ g' := by
  intro f
  induction f with
  | zero => intro g a acc r h; cases h
  | succ f ih =>
    intro g a acc r h ha hg
    rw [toksGo] at h
    by_cases h1 : s.length ≤ a
    · rw [if_pos h1] at h
      obtain rfl : a = s.length := by omega
      exact ⟨acc, g, (Sum.inr.inj h).symm, rfl, by omega⟩
    rw [if_neg h1] at h
    obtain ⟨g, rfl⟩ : ∃ j, g = j + 1 := ⟨g - 1, by omega⟩
    rw [toksGo, if_neg (by rw [List.length_append]; omega), byteAt_ext (by omega)]
    by_cases h2 : byteAt s a = 35
    · rw [if_pos h2] at h ⊢
      have hb := noteEnd_bd (s := s) (a := a) (by omega) (by omega)
      rw [note_ext (by omega)]
      exact ih h (by omega) (by omega)
    rw [if_neg h2] at h ⊢
    cases h3 : isBlank (byteAt s a)
    · rw [h3, if_neg (by decide)] at h
      rw [if_neg (by decide)]
      split at h
      · cases h
      · next t n e =>
        have hb := tokAt_bd (by omega) e
        rw [tok_ext (by omega) e]
        exact ih h (by omega) (by omega)
    · rw [h3, if_pos rfl] at h
      rw [if_pos rfl]
      exact ih h (by omega) (by omega)
theorem toks_join {s x : List UInt8} {a b : List Tok} (ha : toks s = .inr a) (hb : toks x = .inr b) :
    ∃ a', a = a' ++ [⟨6, [], 0, s.length⟩] ∧ toks (s ++ 10 :: x) = .inr (a' ++ b.map (shTok (s.length + 1))) := by
  have hlen : (s ++ 10 :: x).length = s.length + 1 + x.length := by simp; omega
  obtain ⟨a', g', e1, e2, e3⟩ := toks_go_ext (x := x) (g := 2 * (s ++ 10 :: x).length + 2) ha (by omega) (by rw [hlen]; omega)
  refine ⟨a', e1, ?_⟩
  rw [toks, e2]
  obtain ⟨g', rfl⟩ : ∃ j, g' = j + 1 := ⟨g' - 1, by omega⟩
  have hb10 : byteAt (s ++ 10 :: x) s.length = 10 := by simp [byteAt]
  rw [toksGo, if_neg (by rw [hlen]; omega), hb10, if_neg (by decide), if_pos (by decide)]
  have h := toks_sh (p := s ++ [10]) (l := x) (f := 2 * x.length + 2) (g := g') (a := 0) (acc := []) (acc' := a') (r := b) (by simpa [toks] using hb) (by omega)
  simpa using h
theorem index_none {l : List UInt8} {c : UInt8} (h : ∀ b ∈ l, b ≠ c) : Lib.indexByte l c = -1 := by
  induction l with
  | nil => rfl
  | cons b l ih =>
    unfold Lib.indexByte
    have hb : ¬ (b == c) = true := by simpa using h b List.mem_cons_self
    rw [if_neg hb, ih (fun b hb => h b (List.mem_cons_of_mem _ hb))]
    rfl
/-- A note at the end changes nothing but where the end is. -/
theorem toks_notes {s note : List UInt8} {a : List Tok} (ha : toks s = .inr a) (hn : ∀ b ∈ note, b ≠ 10) :
    ∃ a', a = a' ++ [⟨6, [], 0, s.length⟩] ∧ toks (s ++ 10 :: 35 :: note) = .inr (a' ++ [⟨6, [], 0, (s ++ 10 :: 35 :: note).length⟩]) := by
  have hlen : (s ++ 10 :: 35 :: note).length = s.length + 2 + note.length := by simp; omega
  obtain ⟨a', g', e1, e2, e3⟩ := toks_go_ext (x := 35 :: note) (g := 2 * (s ++ 10 :: 35 :: note).length + 2) ha (by omega) (by rw [hlen]; simp; omega)
  refine ⟨a', e1, ?_⟩
  rw [toks, e2]
  obtain ⟨g', rfl⟩ : ∃ j, g' = j + 3 := ⟨g' - 3, by omega⟩
  have hb10 : byteAt (s ++ 10 :: 35 :: note) s.length = 10 := by simp [byteAt]
  have hb35 : byteAt (s ++ 10 :: 35 :: note) (s.length + 1) = 35 := by
    rw [byteAt_sh]; rfl
  have hne : noteEnd (s ++ 10 :: 35 :: note) (s.length + 1) = (s ++ 10 :: 35 :: note).length := by
    unfold noteEnd
    rw [drop_sh]
    have : Lib.indexByte (List.drop 1 (10 :: 35 :: note)) 10 = -1 := index_none (by
      intro b hb
      simp at hb
      rcases hb with rfl | hb
      · decide
      · exact hn b hb)
    rw [this, if_neg (by decide)]
  rw [toksGo, if_neg (by rw [hlen]; omega), hb10, if_neg (by decide), if_pos (by decide), toksGo, if_neg (by rw [hlen]; omega), hb35, if_pos rfl, hne, toksGo, if_pos (Nat.le_refl _)]
end Go.Proofs.YtjlcoldnhbkcgaaGreatDoor
