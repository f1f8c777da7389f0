/- The walk of LexNames. -/
import Derived.Test.YtlohpplpnddfaaaDoorNamedW
import Derived.Test.YtlohpplpnddfaaaDoorQuoW
import Derived.Test.YtlohpplpnddfaaaDoorQuoR
namespace Go.Proofs.YtlohpplpnddfaaaDoor
open Go.RowKit Go.Sort

theorem rName_b (S : ByteArray) (r : Bool) (w : World) (hs : S.size ≤ 140737488351232) (h : isName (bl S) = r) : Calls Tryd.prog 42 #[.string S] w (Ans (.bool r) w) := by
  subst h; exact rName_any S w hs
set_option maxRecDepth 100000 in
set_option maxHeartbeats 3200000 in
theorem names_any (S P : ByteArray) (w : World) (hg : Laid w) (hs : S.size ≤ 140737488351232) (hp : P.size ≤ 1048576) : Calls Tryd.prog 12 #[.string S, .string P] w (Ans (.bool true) w) := by
  have hs2 : S.size ≤ 140737488355328 := by omega
  have HL := Lib.hid hg
  clear hg
  generalize hq : (⟨(quoted (bl P)).toArray⟩ : ByteArray) = Z
  have Q1 := Lib.hid (fun w => hq ▸ quote_any P w hp)
  have Q2 := Lib.hid (fun w => hq ▸ rquote_any P w hp)
  cases hn : isName (bl S)
  all_goals
    have HN := Lib.hid hn
    clear hn hq
    go_enter Tryd.func12, Tryd.ntmps12
    repeat (first | go_values | go_skip | go_guarded | go_step | go_upon)
    refine (small3_any _ HL.out).mono ?_
    rintro e w1 ⟨rfl, hb1⟩
    obtain ⟨hc1, hf1⟩ := bcell hb1
    have hz1 := hb1.size
    try simp at hz1
    dsimp only
    repeat (first | go_values | go_skip | go_guarded | go_step | go_upon)
    refine (lName_b S _ _ hs2 HN.out).mono ?_
    rintro e w2 ⟨rfl, hb2⟩
    obtain ⟨hc2, hf2⟩ := bcell hb2
    have hz2 := hb2.size
    try simp at hz2
    dsimp only
    repeat (first | go_values | go_skip | go_guarded | go_step | go_upon)
    refine (rName_b S _ _ hs HN.out).mono ?_
    rintro e w3 ⟨rfl, hb3⟩
    obtain ⟨hc3, hf3⟩ := bcell hb3
    have hz3 := hb3.size
    try simp at hz3
    dsimp only
    repeat (first | go_values | go_skip | go_guarded | go_step | go_upon)
    refine (Q1.out _).mono ?_
    rintro e w4 ⟨rfl, hb4⟩
    obtain ⟨hc4, hf4⟩ := bcell hb4
    have hz4 := hb4.size
    try simp at hz4
    dsimp only
    repeat (first | go_values | go_skip | go_guarded | go_step | go_upon)
    refine (Q2.out _).mono ?_
    rintro e w5 ⟨rfl, hb5⟩
    obtain ⟨hc5, hf5⟩ := bcell hb5
    have hz5 := hb5.size
    try simp at hz5
    dsimp only
    repeat (first | go_values | go_skip | go_guarded | go_step | go_upon)
    go_ret
    exact ⟨rfl, (by repeat (first | exact Below.refl _ _ | assumption | refine bal ?_ _ | refine bdr ?_ | refine bdrn ?_ _ | (refine bset ?_ (by first | exact Nat.le_refl _ | (simp; done) | (simp; omega) | omega) _) | refine bstep ?_ (by assumption)))⟩
end Go.Proofs.YtlohpplpnddfaaaDoor
