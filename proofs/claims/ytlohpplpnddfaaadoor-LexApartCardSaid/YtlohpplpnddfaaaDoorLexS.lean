/- The walk of the lexer laws' small case. -/
import Derived.Test.YtlohpplpnddfaaaDoorLexW
namespace Go.Proofs.YtlohpplpnddfaaaDoor
open Go.RowKit Go.Sort

/-- The small case: a <- 'x'. -/
def smallL : List UInt8 := [97, 32, 60, 45, 32, 39, 120, 39]
theorem small_toks : toks smallL = .inr [⟨1, [97], 0, 0⟩, ⟨2, [], 0, 2⟩, ⟨3, [120], 0, 5⟩, ⟨6, [], 0, 8⟩] := by
  unfold toks
  rfl
theorem tokens_ok (S : ByteArray) (w : World) (hg : Laid w) (hs : S.size ≤ 8192) {l : List Tok} (h : toks (bl S) = .inr l) :
    Calls Tryd.prog 37 #[.string S] w (fun e w' => ∃ v, e = .returned (.tuple #[v, .nilIface]) ∧ w'.ownsRow w.heap.size 53 7 v l.length (tokCells l) ∧ Below w.heap.size w w') := by
  have := tokens_any S w hg hs
  rw [h] at this
  exact this
theorem tokens_no (S : ByteArray) (w : World) (hg : Laid w) (hs : S.size ≤ 8192) {er : Nat × Nat} (h : toks (bl S) = .inl er) :
    Calls Tryd.prog 37 #[.string S] w (fun e w' => AnsFault er w (fun x => .tuple #[.slice none 0 0, x]) e w' ∧ Below w.heap.size w w') := by
  have := tokens_any S w hg hs
  rw [h] at this
  exact this
set_option maxRecDepth 100000 in
set_option maxHeartbeats 1600000 in
theorem small3_any (w : World) (hg : Laid w) : Calls Tryd.prog 36 #[] w (Ans (.bool true) w) := by
  have HT := Lib.hid (show toks (bl ⟨#[97, 32, 60, 45, 32, 39, 120, 39]⟩) = _ from small_toks)
  have HL := Lib.hid hg
  clear hg
  go_enter Tryd.func36, Tryd.ntmps36
  repeat (first | go_values | go_skip | go_guarded | go_step | go_upon)
  refine (tokens_ok ⟨#[97, 32, 60, 45, 32, 39, 120, 39]⟩ _ HL.out (by decide) HT.out).mono ?_
  rintro e w1 ⟨v, rfl, hown, hb1⟩
  obtain ⟨g, cap, hv, _⟩ := hown.form (by decide)
  subst hv
  have c1 : w1.cell? ⟨g, 1, none⟩ = some (.string ⟨#[97]⟩) := by rw [hown.cellAt 1 (by decide)]; rfl
  have c15 : w1.cell? ⟨g, 15, none⟩ = some (.string ⟨#[120]⟩) := by rw [hown.cellAt 15 (by decide)]; rfl
  have c21 : w1.cell? ⟨g, 21, none⟩ = some (.int .i64 6) := by rw [hown.cellAt 21 (by decide)]; rfl
  clear hown
  dsimp only [List.length]
  repeat (first | go_values | go_skip | go_guarded | go_step | go_upon)
  go_ret
  exact ⟨rfl, (by repeat (first | exact Below.refl _ _ | assumption | refine bal ?_ _ | refine bdr ?_ | refine bdrn ?_ _ | (refine bset ?_ (by first | exact Nat.le_refl _ | (simp; done) | (simp; omega) | omega) _) | refine bstep ?_ (by assumption)))⟩
end Go.Proofs.YtlohpplpnddfaaaDoor
