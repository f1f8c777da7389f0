/- The walk of LexNamed. -/
import Derived.Test.YtlohpplpnddfaaaDoorLexS
import Derived.Test.YtlohpplpnddfaaaDoorNamedP
namespace Go.Proofs.YtlohpplpnddfaaaDoor
open Go.RowKit Go.Sort

theorem nbl_app (A B : ByteArray) : bl (A ++ B) = bl A ++ bl B := by simp [bl, ByteArray.data_append]
theorem nbl_inj {A B : ByteArray} (h : bl A = bl B) : A = B := by
  apply ByteArray.ext
  exact Array.toList_inj.1 h
theorem lName_b (S : ByteArray) (r : Bool) (w : World) (hs : S.size ≤ 140737488355328) (h : isName (bl S) = r) : Calls Tryd.prog 39 #[.string S] w (Ans (.bool r) w) := by
  subst h; exact lName_any S w hs
set_option maxRecDepth 100000 in
set_option maxHeartbeats 3200000 in
theorem named_any (S : ByteArray) (w : World) (hg : Laid w) (hs : S.size ≤ 140737488351232) : Calls Tryd.prog 9 #[.string S] w (Ans (.bool true) w) := by
  have hlen := bl_length S
  have hs2 : S.size ≤ 140737488355328 := by omega
  have HL := Lib.hid hg
  clear hg
  by_cases hbig : 8192 < S.size
  · have HN := Lib.hid (show isName (bl S) = false by rw [isName, hlen]; simp; omega)
    have d1 : decide ((8192 : Int) < S.size) = true := by simp; omega
    go_enter Tryd.func9, Tryd.ntmps9
    repeat (first | go_values | go_skip | go_guarded | go_step | go_upon)
    refine (small3_any _ HL.out).mono ?_
    rintro e w1 ⟨rfl, hb1⟩
    obtain ⟨hc1, hf1⟩ := bcell hb1
    have hz1 := hb1.size
    try simp at hz1
    dsimp only
    repeat (first | go_values | go_skip | go_guarded | go_step | go_upon)
    refine (lName_b S _ _ hs2 HN.out).mono ?_
    rintro e w2 ⟨rfl, hb2⟩
    obtain ⟨hc2, hf2⟩ := bcell hb2
    have hz2 := hb2.size
    try simp at hz2
    dsimp only
    repeat (first | go_values | go_skip | go_guarded | go_step | go_upon)
    go_ret
    exact ⟨rfl, (by repeat (first | exact Below.refl _ _ | assumption | refine bal ?_ _ | refine bdr ?_ | refine bdrn ?_ _ | (refine bset ?_ (by first | exact Nat.le_refl _ | (simp; done) | (simp; omega) | omega) _) | refine bstep ?_ (by assumption)))⟩
  · have d1 : decide ((8192 : Int) < S.size) = false := by simp; omega
    have h8 : S.size ≤ 8192 := by omega
    have HL1 := Lib.hid (fun (W : World) (h : Below w.heap.size w W) => HL.out.below h HL.out.pos)
    cases hn : isName (bl S)
    · have HN := Lib.hid hn
      cases ht : toks (bl S) with
      | inl er =>
        have HT := Lib.hid ht
        clear hn ht
        go_enter Tryd.func9, Tryd.ntmps9
        repeat (first | go_values | go_skip | go_guarded | go_step | go_upon)
        refine (small3_any _ HL.out).mono ?_
        rintro e w1 ⟨rfl, hb1⟩
        obtain ⟨hc1, hf1⟩ := bcell hb1
        have hz1 := hb1.size
        try simp at hz1
        dsimp only
        repeat (first | go_values | go_skip | go_guarded | go_step | go_upon)
        refine (lName_b S _ _ hs2 HN.out).mono ?_
        rintro e w2 ⟨rfl, hb2⟩
        obtain ⟨hc2, hf2⟩ := bcell hb2
        have hz2 := hb2.size
        try simp at hz2
        dsimp only
        repeat (first | go_values | go_skip | go_guarded | go_step | go_upon)
        refine (tokens_no S _ (HL1.out _ (by repeat (first | exact Below.refl _ _ | assumption | refine bal ?_ _ | refine bdr ?_ | refine bdrn ?_ _ | (refine bset ?_ (by first | exact Nat.le_refl _ | (simp; done) | (simp; omega) | omega) _) | refine bstep ?_ (by assumption)))) h8 HT.out).mono ?_
        rintro e w3 ⟨⟨p, rfl, hp, hl⟩, hb3⟩
        dsimp only
        repeat (first | go_values | go_skip | go_guarded | go_step | go_upon)
        go_ret
        exact ⟨rfl, (by repeat (first | exact Below.refl _ _ | assumption | refine bal ?_ _ | refine bdr ?_ | refine bdrn ?_ _ | (refine bset ?_ (by first | exact Nat.le_refl _ | (simp; done) | (simp; omega) | omega) _) | refine bstep ?_ (by assumption)))⟩
      | inr l =>
        have HT := Lib.hid ht
        by_cases h2 : l.length = 2
        · obtain ⟨t, t2, rfl⟩ : ∃ t t2, l = [t, t2] := by
            match l, h2 with
            | [t, t2], _ => exact ⟨t, t2, rfl⟩
          by_cases hk : t.kind = 1
          · have hne : t.text ≠ bl S := fun e => by have := toks_named ht hk e; rw [hn] at this; cases this
            have hne2 : mkS t.text ≠ S := fun e => hne (by rw [← e]; simp [mkS, bl])
            have s1 : ((mkS t.text).toList == S.toList) = false := by
              rw [Go.ByteArray.toList_eq, Go.ByteArray.toList_eq]
              simpa [mkS, bl] using hne
            have s3 : ¬ (mkS t.text).toList = S.toList := by simpa using s1
            have s4 : decide ((mkS t.text).toList = S.toList) = false := by simpa using s1
            clear hn ht hne
            go_enter Tryd.func9, Tryd.ntmps9
            repeat (first | go_values | go_skip | go_guarded | go_step | go_upon)
            refine (small3_any _ HL.out).mono ?_
            rintro e w1 ⟨rfl, hb1⟩
            obtain ⟨hc1, hf1⟩ := bcell hb1
            have hz1 := hb1.size
            try simp at hz1
            dsimp only
            repeat (first | go_values | go_skip | go_guarded | go_step | go_upon)
            refine (lName_b S _ _ hs2 HN.out).mono ?_
            rintro e w2 ⟨rfl, hb2⟩
            obtain ⟨hc2, hf2⟩ := bcell hb2
            have hz2 := hb2.size
            try simp at hz2
            dsimp only
            repeat (first | go_values | go_skip | go_guarded | go_step | go_upon)
            refine (tokens_ok S _ (HL1.out _ (by repeat (first | exact Below.refl _ _ | assumption | refine bal ?_ _ | refine bdr ?_ | refine bdrn ?_ _ | (refine bset ?_ (by first | exact Nat.le_refl _ | (simp; done) | (simp; omega) | omega) _) | refine bstep ?_ (by assumption)))) h8 HT.out).mono ?_
            rintro e w3 ⟨v, rfl, hown, hb3⟩
            obtain ⟨g, cap, hv, _⟩ := hown.form (by simp)
            subst hv
            have c0 : w3.cell? ⟨g, 0, none⟩ = some (.int .i64 1) := by rw [hown.cellAt 0 (by simp)]; simp [tokCells, tokC, hk]
            have c1 : w3.cell? ⟨g, 1, none⟩ = some (.string (mkS t.text)) := by rw [hown.cellAt 1 (by simp)]; simp [tokCells, tokC]
            clear hown
            dsimp only [List.length]
            repeat (first | go_values | go_skip | go_guarded | go_step | go_upon)
            go_ret
            exact ⟨rfl, (by repeat (first | exact Below.refl _ _ | assumption | refine bal ?_ _ | refine bdr ?_ | refine bdrn ?_ _ | (refine bset ?_ (by first | exact Nat.le_refl _ | (simp; done) | (simp; omega) | omega) _) | refine bstep ?_ (by assumption)))⟩
          · have m1 : ((t.kind : Int) == 1) = false := by simp; omega
            clear hn ht hk
            go_enter Tryd.func9, Tryd.ntmps9
            repeat (first | go_values | go_skip | go_guarded | go_step | go_upon)
            refine (small3_any _ HL.out).mono ?_
            rintro e w1 ⟨rfl, hb1⟩
            obtain ⟨hc1, hf1⟩ := bcell hb1
            have hz1 := hb1.size
            try simp at hz1
            dsimp only
            repeat (first | go_values | go_skip | go_guarded | go_step | go_upon)
            refine (lName_b S _ _ hs2 HN.out).mono ?_
            rintro e w2 ⟨rfl, hb2⟩
            obtain ⟨hc2, hf2⟩ := bcell hb2
            have hz2 := hb2.size
            try simp at hz2
            dsimp only
            repeat (first | go_values | go_skip | go_guarded | go_step | go_upon)
            refine (tokens_ok S _ (HL1.out _ (by repeat (first | exact Below.refl _ _ | assumption | refine bal ?_ _ | refine bdr ?_ | refine bdrn ?_ _ | (refine bset ?_ (by first | exact Nat.le_refl _ | (simp; done) | (simp; omega) | omega) _) | refine bstep ?_ (by assumption)))) h8 HT.out).mono ?_
            rintro e w3 ⟨v, rfl, hown, hb3⟩
            obtain ⟨g, cap, hv, _⟩ := hown.form (by simp)
            subst hv
            have c0 : w3.cell? ⟨g, 0, none⟩ = some (.int .i64 (t.kind : Int)) := by rw [hown.cellAt 0 (by simp)]; simp [tokCells, tokC]
            clear hown
            dsimp only [List.length]
            repeat (first | go_values | go_skip | go_guarded | go_step | go_upon)
            go_ret
            exact ⟨rfl, (by repeat (first | exact Below.refl _ _ | assumption | refine bal ?_ _ | refine bdr ?_ | refine bdrn ?_ _ | (refine bset ?_ (by first | exact Nat.le_refl _ | (simp; done) | (simp; omega) | omega) _) | refine bstep ?_ (by assumption)))⟩
        · have m2 : ((l.length : Int) == 2) = false := by simp; omega
          generalize hn2 : l.length = n at *
          have HN2 := Lib.hid hn2
          clear hn ht h2 hn2
          go_enter Tryd.func9, Tryd.ntmps9
          repeat (first | go_values | go_skip | go_guarded | go_step | go_upon)
          refine (small3_any _ HL.out).mono ?_
          rintro e w1 ⟨rfl, hb1⟩
          obtain ⟨hc1, hf1⟩ := bcell hb1
          have hz1 := hb1.size
          try simp at hz1
          dsimp only
          repeat (first | go_values | go_skip | go_guarded | go_step | go_upon)
          refine (lName_b S _ _ hs2 HN.out).mono ?_
          rintro e w2 ⟨rfl, hb2⟩
          obtain ⟨hc2, hf2⟩ := bcell hb2
          have hz2 := hb2.size
          try simp at hz2
          dsimp only
          repeat (first | go_values | go_skip | go_guarded | go_step | go_upon)
          refine (tokens_ok S _ (HL1.out _ (by repeat (first | exact Below.refl _ _ | assumption | refine bal ?_ _ | refine bdr ?_ | refine bdrn ?_ _ | (refine bset ?_ (by first | exact Nat.le_refl _ | (simp; done) | (simp; omega) | omega) _) | refine bstep ?_ (by assumption)))) h8 HT.out).mono ?_
          rintro e w3 ⟨v, rfl, hown, hb3⟩
          rw [HN2.out] at hown
          rcases owns_form2 hown with ⟨h0, hv⟩ | ⟨g, cap, hv⟩
          all_goals
            subst hv
            clear hown
            dsimp only
            repeat (first | go_values | go_skip | go_guarded | go_step | go_upon)
            go_ret
            exact ⟨rfl, (by repeat (first | exact Below.refl _ _ | assumption | refine bal ?_ _ | refine bdr ?_ | refine bdrn ?_ _ | (refine bset ?_ (by first | exact Nat.le_refl _ | (simp; done) | (simp; omega) | omega) _) | refine bstep ?_ (by assumption)))⟩
    · have HN := Lib.hid hn
      have HT := Lib.hid (named_toks hn)
      have hsp := isName_spec hn
      have HX := Lib.hid (show isName (bl (S ++ ⟨#[120]⟩)) = decide (S.size < 32) by rw [nbl_app, show bl ⟨#[120]⟩ = [120] from rfl, named_more hn, hlen])
      have hz : (S ++ ⟨#[120]⟩ : ByteArray).size ≤ 140737488355328 := by rw [← bl_length, nbl_app, List.length_append, hlen, show bl ⟨#[120]⟩ = [120] from rfl]; simp; omega
      have HZ := Lib.hid hz
      have e0 : mkS (bl S) = S := nbl_inj (by simp [mkS, bl])
      clear hn hz hsp
      go_enter Tryd.func9, Tryd.ntmps9
      repeat (first | go_values | go_skip | go_guarded | go_step | go_upon)
      refine (small3_any _ HL.out).mono ?_
      rintro e w1 ⟨rfl, hb1⟩
      obtain ⟨hc1, hf1⟩ := bcell hb1
      have hz1 := hb1.size
      try simp at hz1
      dsimp only
      repeat (first | go_values | go_skip | go_guarded | go_step | go_upon)
      refine (lName_b S _ _ hs2 HN.out).mono ?_
      rintro e w2 ⟨rfl, hb2⟩
      obtain ⟨hc2, hf2⟩ := bcell hb2
      have hz2 := hb2.size
      try simp at hz2
      dsimp only
      repeat (first | go_values | go_skip | go_guarded | go_step | go_upon)
      refine (tokens_ok S _ (HL1.out _ (by repeat (first | exact Below.refl _ _ | assumption | refine bal ?_ _ | refine bdr ?_ | refine bdrn ?_ _ | (refine bset ?_ (by first | exact Nat.le_refl _ | (simp; done) | (simp; omega) | omega) _) | refine bstep ?_ (by assumption)))) h8 HT.out).mono ?_
      rintro e w3 ⟨v, rfl, hown, hb3⟩
      obtain ⟨g, cap, hv, _⟩ := hown.form (by simp)
      subst hv
      have c0 : w3.cell? ⟨g, 0, none⟩ = some (.int .i64 1) := by rw [hown.cellAt 0 (by simp)]; rfl
      have c1 : w3.cell? ⟨g, 1, none⟩ = some (.string S) := by rw [hown.cellAt 1 (by simp)]; simp [tokCells, tokC, e0]
      clear hown
      dsimp only [List.length]
      cases h32 : decide (S.size < 32)
      all_goals
        rw [h32] at HX
        have d32 : decide ((S.size : Int) < 32) = decide (S.size < 32) := by apply decide_eq_decide.2; omega
        rw [h32] at d32
        clear h32
        repeat (first | go_values | go_skip | go_guarded | go_step | go_upon)
        refine (lName_b _ _ _ HZ.out HX.out).mono ?_
        rintro e w4 ⟨rfl, hb4⟩
        obtain ⟨hc4, hf4⟩ := bcell hb4
        have hz4 := hb4.size
        try simp at hz4
        dsimp only
        repeat (first | go_values | go_skip | go_guarded | go_step | go_upon)
        go_ret
        exact ⟨rfl, (by repeat (first | exact Below.refl _ _ | assumption | refine bal ?_ _ | refine bdr ?_ | refine bdrn ?_ _ | (refine bset ?_ (by first | exact Nat.le_refl _ | (simp; done) | (simp; omega) | omega) _) | refine bstep ?_ (by assumption)))⟩
end Go.Proofs.YtlohpplpnddfaaaDoor
