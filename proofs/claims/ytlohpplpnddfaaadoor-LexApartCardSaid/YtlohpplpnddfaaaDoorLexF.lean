/- lex.Tokens of any source: the tokens, or what is wrong and where; an error's number and place. -/
import Derived.Test.YtlohpplpnddfaaaDoorLexS
import Derived.Test.YtlohpplpnddfaaaDoorAsV
namespace Go.Proofs.YtlohpplpnddfaaaDoor
open Go.RowKit Go.Sort

/-- A fault at a place that may lie below 0. -/
def FaultI (p : Nat) (c x : Int) (w : World) : Prop := w.heap[p]? = some (.cells #[.int .i64 c, .int .i64 x] 93 (0, 0))
/-- It answers such an error, of its own. -/
def AnsFaultI (c x : Int) (w : World) (v : Value → Value) (ev : Ending) (w' : World) : Prop := ∃ p, ev = .returned (v (.iface 90 (.pointer (some ⟨p, 0, none⟩)))) ∧ FaultI p c x w' ∧ w.heap.size ≤ p
theorem faultI_of {p : Nat} {er : Nat × Nat} {w : World} (h : FaultAt p er w) : FaultI p er.1 er.2 w := h
theorem FaultI.below {p : Nat} {c x : Int} {w w' : World} (h : FaultI p c x w) (hb : Below w.heap.size w w') : FaultI p c x w' := (hb.block _ (Array.getElem?_eq_some_iff.1 h).1).trans h
theorem FaultI.lt {p : Nat} {c x : Int} {w : World} (h : FaultI p c x w) : p < w.heap.size := (Array.getElem?_eq_some_iff.1 h).1
theorem code_I {p : Nat} {c x y : Int} {w : World} (hg : Laid w) (h : FaultI p c x w) (hy : y = c) : Calls Tryd.prog 21 #[.iface 90 (.pointer (some ⟨p, 0, none⟩))] w (Ans (.int .i64 y) w) := by
  subst hy; exact code_F p _ w hg ((cells_at h).1 0)
theorem at_I {p : Nat} {c x y : Int} {w : World} (hg : Laid w) (h : FaultI p c x w) (hy : y = x) : Calls Tryd.prog 34 #[.iface 90 (.pointer (some ⟨p, 0, none⟩))] w (Ans (.int .i64 y) w) := by
  subst hy; exact at_F p _ w hg ((cells_at h).1 1)
set_option maxHeartbeats 400000 in
theorem faultI_any (c x : Int) (w : World) :
    Calls Tryd.prog 62 #[.int .i64 c, .int .i64 x] w fun e w' => AnsFaultI c x w id e w' ∧ Below w.heap.size w w' := by
  go_enter Tryd.func62, Tryd.ntmps62
  repeat (first | go_values | go_skip | go_guarded | go_step | go_upon)
  go_ret
  exact ⟨⟨_, rfl, heap_alloc_new _ _, Nat.le_refl _⟩, (by repeat (first | exact Below.refl _ _ | assumption | refine bal ?_ _ | refine bdr ?_ | refine bdrn ?_ _ | (refine bset ?_ (by first | exact Nat.le_refl _ | (simp; done) | (simp; omega) | omega) _) | refine bstep ?_ (by assumption)))⟩
set_option maxRecDepth 100000 in
set_option maxHeartbeats 1600000 in
theorem tokens_long (S : ByteArray) (w : World) (h8 : 8192 < S.size) (hs : S.size ≤ 140737488355328) :
    Calls Tryd.prog 37 #[.string S] w (fun e w' => AnsFaultI 2 (-1) w (fun x => .tuple #[.slice none 0 0, x]) e w' ∧ Below w.heap.size w w') := by
  have d1 : decide ((8192 : Int) < S.size) = true := by simp; omega
  go_enter Tryd.func37, Tryd.ntmps37
  repeat (first | go_values | go_skip | go_guarded | go_step | go_upon)
  refine (faultI_any _ _ _).mono ?_
  rintro e w1 ⟨⟨p, rfl, hp, hl⟩, hb1⟩
  dsimp only [id]
  repeat (first | go_values | go_skip | go_guarded | go_step | go_upon)
  go_ret2
  exact ⟨⟨p, rfl, hp, hl⟩, hb1⟩
/-- The tokens of any source, or what is wrong, and where. -/
def lexed (s : List UInt8) : (Nat × Int) ⊕ List Tok :=
  if 8192 < s.length then .inl (2, -1) else match toks s with
    | .inl er => .inl (er.1, (er.2 : Int))
    | .inr l => .inr l
theorem lexed_inr {s : List UInt8} {l : List Tok} (h : lexed s = .inr l) : s.length ≤ 8192 ∧ toks s = .inr l := by
  unfold lexed at h
  split at h
  · cases h
  · split at h
    · cases h
    · next e => exact ⟨by omega, by rw [e, Sum.inr.inj h]⟩
theorem lexed_toks {s : List UInt8} {l : List Tok} (h8 : s.length ≤ 8192) (h : toks s = .inr l) : lexed s = .inr l := by
  rw [lexed, if_neg (by omega), h]
theorem lexed_bad {s : List UInt8} {er : Nat × Nat} (h8 : s.length ≤ 8192) (h : toks s = .inl er) : lexed s = .inl (er.1, (er.2 : Int)) := by
  rw [lexed, if_neg (by omega), h]
theorem lexed_big {s : List UInt8} (h8 : 8192 < s.length) : lexed s = .inl (2, -1) := by
  rw [lexed, if_pos h8]
theorem lexed_ok (S : ByteArray) (w : World) (hg : Laid w) {l : List Tok} (h : lexed (bl S) = .inr l) :
    Calls Tryd.prog 37 #[.string S] w (fun e w' => ∃ v, e = .returned (.tuple #[v, .nilIface]) ∧ w'.ownsRow w.heap.size 53 7 v l.length (tokCells l) ∧ Below w.heap.size w w') := by
  obtain ⟨h1, h2⟩ := lexed_inr h
  exact tokens_ok S w hg (by rw [← bl_length]; exact h1) h2
theorem lexed_no (S : ByteArray) (w : World) (hg : Laid w) (hs : S.size ≤ 140737488355328) {er : Nat × Int} (h : lexed (bl S) = .inl er) :
    Calls Tryd.prog 37 #[.string S] w (fun e w' => AnsFaultI er.1 er.2 w (fun x => .tuple #[.slice none 0 0, x]) e w' ∧ Below w.heap.size w w') := by
  have hlen := bl_length S
  unfold lexed at h
  split at h
  · next h8 =>
    have e := Sum.inl.inj h
    subst e
    exact tokens_long S w (by omega) hs
  · next h8 =>
    split at h
    · next er2 ht =>
      have e := Sum.inl.inj h
      subst e
      exact tokens_no S w hg (by omega) ht
    · cases h
end Go.Proofs.YtlohpplpnddfaaaDoor
