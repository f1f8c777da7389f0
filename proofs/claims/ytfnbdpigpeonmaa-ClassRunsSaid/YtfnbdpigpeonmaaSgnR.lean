/- The walk of the document's Sign. -/
import Derived.Test.YtfnbdpigpeonmaaClsV
import Derived.Test.YtfnbdpigpeonmaaSgnP
import Derived.Laws.BytesString
namespace Go.Proofs.Ytfnbdpigpeonmaa
open Go.RowKit Go.Sort

/-- A string of one byte. -/
theorem one_byte (w : World) (n : Nat) (x : Int) (h : x = n) : (convert 51 9 (.slice (some ⟨w.heap.size, 0, none⟩) 1 1)).run Try.prog (w.alloc (.cells #[.int .u8 x] 5)) = .ok (.string ⟨#[n.toUInt8]⟩) (w.alloc (.cells #[.int .u8 x] 5)) := by
  subst h
  rw [run_convert_bytes_string _ 51 9 5 _ 1 1 Try.underlying51 Try.underlying5 Try.underlying9, run_bytesToString (ns := [(n : Int)]) _ _ _ _ ?_]
  · rfl
  · simp [loadCells, go_sem]
theorem five_no {b : Nat} (h : fiveB b = false) : ((b : Int) == 91) = false ∧ ((b : Int) == 93) = false ∧ ((b : Int) == 92) = false ∧ ((b : Int) == 45) = false ∧ ((b : Int) == 94) = false := by
  simp [fiveB] at h
  obtain ⟨⟨⟨⟨h1, h2⟩, h3⟩, h4⟩, h5⟩ := h
  refine ⟨?_, ?_, ?_, ?_, ?_⟩ <;> simp <;> omega
set_option maxRecDepth 100000 in
set_option maxHeartbeats 800000 in
theorem five_any (b : Nat) (r : Bool) (w : World) (h : fiveB b = r) : Calls Try.prog 36 #[.int .i64 b] w (Ans (.bool r) w) := by
  cases r
  · obtain ⟨h1, h2, h3, h4, h5⟩ := five_no h
    clear h
    go_enter Try.func36, Try.ntmps36
    repeat (first | go_values | go_skip | go_guarded | go_step | go_upon)
    go_ret
    exact ⟨rfl, (by repeat (first | exact Below.refl _ _ | assumption | refine bal ?_ _ | refine bdr ?_ | refine bdrn ?_ _ | (refine bset ?_ (by first | exact Nat.le_refl _ | (simp; done) | (simp; omega) | omega) _) | refine bstep ?_ (by assumption)))⟩
  · rcases five_list h with rfl | rfl | rfl | rfl | rfl
    all_goals
      clear h
      go_enter Try.func36, Try.ntmps36
      repeat (first | go_values | go_skip | go_guarded | go_step | go_upon)
      go_ret
      exact ⟨rfl, (by repeat (first | exact Below.refl _ _ | assumption | refine bal ?_ _ | refine bdr ?_ | refine bdrn ?_ _ | (refine bset ?_ (by first | exact Nat.le_refl _ | (simp; done) | (simp; omega) | omega) _) | refine bstep ?_ (by assumption)))⟩
set_option maxRecDepth 100000 in
theorem hex_any (n : Nat) (w : World) (h : n < 16) : Calls Try.prog 37 #[.int .i64 n] w (Ans (.string ⟨#[hexd n]⟩) w) := by
  have h1 := Lib.hid (hexd_at n h)
  go_enter Try.func37, Try.ntmps37
  repeat (first | go_values | go_skip | go_guarded | go_step | go_upon)
  go_ret
  refine ⟨?_, (by repeat (first | exact Below.refl _ _ | assumption | refine bal ?_ _ | refine bdr ?_ | refine bdrn ?_ _ | (refine bset ?_ (by first | exact Nat.le_refl _ | (simp; done) | (simp; omega) | omega) _) | refine bstep ?_ (by assumption)))⟩
  rw [← h1.out]
  rfl
set_option maxRecDepth 100000 in
set_option maxHeartbeats 1600000 in
theorem rsign_any (b : Nat) (w : World) (hb : b < 256) : Calls Try.prog 30 #[.int .i64 b] w (Ans (.string ⟨(sgn b).toArray⟩) w) := by
  rcases sgn_kinds b hb with h | h | ⟨h, n1, n2, n3, l1, l2⟩ | ⟨h, n1, n2, n3, l⟩
  · rcases h with rfl | rfl | rfl
    all_goals
      go_enter Try.func30, Try.ntmps30
      repeat (first | go_values | go_skip | go_guarded | go_step | go_upon)
      refine (five_any _ false _ rfl).mono ?_
      rintro e w1 ⟨rfl, hb1⟩
      obtain ⟨hc1, hf1⟩ := bcell hb1
      have hz1 := hb1.size
      try simp at hz1
      dsimp only
      repeat (first | go_values | go_skip | go_guarded | go_step | go_upon)
      go_ret
      exact ⟨rfl, (by repeat (first | exact Below.refl _ _ | assumption | refine bal ?_ _ | refine bdr ?_ | refine bdrn ?_ _ | (refine bset ?_ (by first | exact Nat.le_refl _ | (simp; done) | (simp; omega) | omega) _) | refine bstep ?_ (by assumption)))⟩
  · rcases five_list h with rfl | rfl | rfl | rfl | rfl
    · clear h
      have fb := fun w => one_byte w 91 91 rfl
      go_enter Try.func30, Try.ntmps30
      repeat (first | go_values | go_skip | go_guarded | go_step | go_upon)
      refine (five_any _ true _ rfl).mono ?_
      rintro e w1 ⟨rfl, hb1⟩
      obtain ⟨hc1, hf1⟩ := bcell hb1
      have hz1 := hb1.size
      try simp at hz1
      dsimp only
      repeat (first | go_values | go_skip | go_guarded | go_step | go_upon)
      go_ret
      exact ⟨rfl, (by repeat (first | exact Below.refl _ _ | assumption | refine bal ?_ _ | refine bdr ?_ | refine bdrn ?_ _ | (refine bset ?_ (by first | exact Nat.le_refl _ | (simp; done) | (simp; omega) | omega) _) | refine bstep ?_ (by assumption)))⟩
    · clear h
      have fb := fun w => one_byte w 93 93 rfl
      go_enter Try.func30, Try.ntmps30
      repeat (first | go_values | go_skip | go_guarded | go_step | go_upon)
      refine (five_any _ true _ rfl).mono ?_
      rintro e w1 ⟨rfl, hb1⟩
      obtain ⟨hc1, hf1⟩ := bcell hb1
      have hz1 := hb1.size
      try simp at hz1
      dsimp only
      repeat (first | go_values | go_skip | go_guarded | go_step | go_upon)
      go_ret
      exact ⟨rfl, (by repeat (first | exact Below.refl _ _ | assumption | refine bal ?_ _ | refine bdr ?_ | refine bdrn ?_ _ | (refine bset ?_ (by first | exact Nat.le_refl _ | (simp; done) | (simp; omega) | omega) _) | refine bstep ?_ (by assumption)))⟩
    · clear h
      have fb := fun w => one_byte w 92 92 rfl
      go_enter Try.func30, Try.ntmps30
      repeat (first | go_values | go_skip | go_guarded | go_step | go_upon)
      refine (five_any _ true _ rfl).mono ?_
      rintro e w1 ⟨rfl, hb1⟩
      obtain ⟨hc1, hf1⟩ := bcell hb1
      have hz1 := hb1.size
      try simp at hz1
      dsimp only
      repeat (first | go_values | go_skip | go_guarded | go_step | go_upon)
      go_ret
      exact ⟨rfl, (by repeat (first | exact Below.refl _ _ | assumption | refine bal ?_ _ | refine bdr ?_ | refine bdrn ?_ _ | (refine bset ?_ (by first | exact Nat.le_refl _ | (simp; done) | (simp; omega) | omega) _) | refine bstep ?_ (by assumption)))⟩
    · clear h
      have fb := fun w => one_byte w 45 45 rfl
      go_enter Try.func30, Try.ntmps30
      repeat (first | go_values | go_skip | go_guarded | go_step | go_upon)
      refine (five_any _ true _ rfl).mono ?_
      rintro e w1 ⟨rfl, hb1⟩
      obtain ⟨hc1, hf1⟩ := bcell hb1
      have hz1 := hb1.size
      try simp at hz1
      dsimp only
      repeat (first | go_values | go_skip | go_guarded | go_step | go_upon)
      go_ret
      exact ⟨rfl, (by repeat (first | exact Below.refl _ _ | assumption | refine bal ?_ _ | refine bdr ?_ | refine bdrn ?_ _ | (refine bset ?_ (by first | exact Nat.le_refl _ | (simp; done) | (simp; omega) | omega) _) | refine bstep ?_ (by assumption)))⟩
    · clear h
      have fb := fun w => one_byte w 94 94 rfl
      go_enter Try.func30, Try.ntmps30
      repeat (first | go_values | go_skip | go_guarded | go_step | go_upon)
      refine (five_any _ true _ rfl).mono ?_
      rintro e w1 ⟨rfl, hb1⟩
      obtain ⟨hc1, hf1⟩ := bcell hb1
      have hz1 := hb1.size
      try simp at hz1
      dsimp only
      repeat (first | go_values | go_skip | go_guarded | go_step | go_upon)
      go_ret
      exact ⟨rfl, (by repeat (first | exact Below.refl _ _ | assumption | refine bal ?_ _ | refine bdr ?_ | refine bdrn ?_ _ | (refine bset ?_ (by first | exact Nat.le_refl _ | (simp; done) | (simp; omega) | omega) _) | refine bstep ?_ (by assumption)))⟩
  · have hs := Lib.hid (sgn_plain h n1 n2 n3 l1 l2)
    have H := Lib.hid h
    have m1 : ((b : Int) == 10) = false := by simp; omega
    have m2 : ((b : Int) == 13) = false := by simp; omega
    have m3 : ((b : Int) == 9) = false := by simp; omega
    have d1 : decide ((32 : Int) ≤ b) = true := by simp; omega
    have d2 : decide ((b : Int) ≤ 126) = true := by simp; omega
    have fb := fun w => one_byte w b _ rfl
    clear h n1 n2 n3
    go_enter Try.func30, Try.ntmps30
    repeat (first | go_values | go_skip | go_guarded | go_step | go_upon)
    refine (five_any _ false _ H.out).mono ?_
    rintro e w1 ⟨rfl, hb1⟩
    obtain ⟨hc1, hf1⟩ := bcell hb1
    have hz1 := hb1.size
    try simp at hz1
    dsimp only
    repeat (first | go_values | go_skip | go_guarded | go_step | go_upon)
    go_ret
    refine ⟨?_, (by repeat (first | exact Below.refl _ _ | assumption | refine bal ?_ _ | refine bdr ?_ | refine bdrn ?_ _ | (refine bset ?_ (by first | exact Nat.le_refl _ | (simp; done) | (simp; omega) | omega) _) | refine bstep ?_ (by assumption)))⟩
    rw [hs.out]
    rfl
  · have hs := Lib.hid (sgn_hex h n1 n2 n3 l)
    have H := Lib.hid h
    have m1 : ((b : Int) == 10) = false := by simp; omega
    have m2 : ((b : Int) == 13) = false := by simp; omega
    have m3 : ((b : Int) == 9) = false := by simp; omega
    clear h n1 n2 n3
    have e1 : (b : Int) / 16 = ((b / 16 : Nat) : Int) := by omega
    have e2 : (b : Int) % 16 = ((b % 16 : Nat) : Int) := by omega
    have k1 : b / 16 < 16 := by omega
    have k2 : b % 16 < 16 := by omega
    generalize b / 16 = p at *
    generalize b % 16 = q at *
    rcases l with l | l
    · have d1 : decide ((32 : Int) ≤ b) = false := by simp; omega
      go_enter Try.func30, Try.ntmps30
      repeat (first | go_values | go_skip | go_guarded | go_step | go_upon)
      refine (five_any _ false _ H.out).mono ?_
      rintro e w1 ⟨rfl, hb1⟩
      obtain ⟨hc1, hf1⟩ := bcell hb1
      have hz1 := hb1.size
      try simp at hz1
      dsimp only
      repeat (first | go_values | go_skip | go_guarded | go_step | go_upon)
      refine (hex_any p _ k1).mono ?_
      rintro e w2 ⟨rfl, hb2⟩
      obtain ⟨hc2, hf2⟩ := bcell hb2
      have hz2 := hb2.size
      try simp at hz2
      dsimp only
      repeat (first | go_values | go_skip | go_guarded | go_step | go_upon)
      refine (hex_any q _ k2).mono ?_
      rintro e w3 ⟨rfl, hb3⟩
      obtain ⟨hc3, hf3⟩ := bcell hb3
      have hz3 := hb3.size
      try simp at hz3
      dsimp only
      repeat (first | go_values | go_skip | go_guarded | go_step | go_upon)
      go_ret
      refine ⟨?_, (by repeat (first | exact Below.refl _ _ | assumption | refine bal ?_ _ | refine bdr ?_ | refine bdrn ?_ _ | (refine bset ?_ (by first | exact Nat.le_refl _ | (simp; done) | (simp; omega) | omega) _) | refine bstep ?_ (by assumption)))⟩
      rw [hs.out]
      rfl
    · have d1 : decide ((32 : Int) ≤ b) = true := by simp; omega
      have d2 : decide ((b : Int) ≤ 126) = false := by simp; omega
      go_enter Try.func30, Try.ntmps30
      repeat (first | go_values | go_skip | go_guarded | go_step | go_upon)
      refine (five_any _ false _ H.out).mono ?_
      rintro e w1 ⟨rfl, hb1⟩
      obtain ⟨hc1, hf1⟩ := bcell hb1
      have hz1 := hb1.size
      try simp at hz1
      dsimp only
      repeat (first | go_values | go_skip | go_guarded | go_step | go_upon)
      refine (hex_any p _ k1).mono ?_
      rintro e w2 ⟨rfl, hb2⟩
      obtain ⟨hc2, hf2⟩ := bcell hb2
      have hz2 := hb2.size
      try simp at hz2
      dsimp only
      repeat (first | go_values | go_skip | go_guarded | go_step | go_upon)
      refine (hex_any q _ k2).mono ?_
      rintro e w3 ⟨rfl, hb3⟩
      obtain ⟨hc3, hf3⟩ := bcell hb3
      have hz3 := hb3.size
      try simp at hz3
      dsimp only
      repeat (first | go_values | go_skip | go_guarded | go_step | go_upon)
      go_ret
      refine ⟨?_, (by repeat (first | exact Below.refl _ _ | assumption | refine bal ?_ _ | refine bdr ?_ | refine bdrn ?_ _ | (refine bset ?_ (by first | exact Nat.le_refl _ | (simp; done) | (simp; omega) | omega) _) | refine bstep ?_ (by assumption)))⟩
      rw [hs.out]
      rfl
end Go.Proofs.Ytfnbdpigpeonmaa
