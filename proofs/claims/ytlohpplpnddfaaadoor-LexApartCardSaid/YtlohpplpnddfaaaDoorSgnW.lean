/- The walk of a byte's sign. -/
import Derived.Test.YtlohpplpnddfaaaDoorClsV
import Derived.Test.YtlohpplpnddfaaaDoorSgnP
import Derived.Test.YtlohpplpnddfaaaDoorShelf
namespace Go.Proofs.YtlohpplpnddfaaaDoor
open Go.RowKit Go.Sort

theorem idx_any (s : ByteArray) (c r : Int) (w : World) (h : Lib.indexByte s.data.toList c.toNat.toUInt8 = r) : Calls Tryd.prog 63 #[.string s, .int .u8 c] w (Ans (.int .i64 r) w) :=
  (Tryd.strings_IndexByte s c w).mono fun e w' ⟨he, hw⟩ => ⟨by rw [he, h], by rw [hw]; exact Below.refl _ _⟩
theorem enc_one : ∀ b : Nat, b < 128 → Utf8.encode (b : Int) = ⟨#[b.toUInt8]⟩ := by decide +kernel
theorem and15 : ∀ b : Nat, b < 256 → bits .and .u8 (b : Int) 15 = ((b % 16 : Nat) : Int) := by decide +kernel
set_option maxRecDepth 100000 in
set_option maxHeartbeats 1600000 in
theorem sign_any (b : Nat) (w : World) (hb : b < 256) : Calls Tryd.prog 60 #[.int .i64 b] w (Ans (.string ⟨(sgn b).toArray⟩) w) := by
  rcases sgn_kinds b hb with h | h | ⟨h, n1, n2, n3, l1, l2⟩ | ⟨h, n1, n2, n3, l⟩
  · rcases h with rfl | rfl | rfl
    · go_enter Tryd.func60, Tryd.ntmps60
      repeat (first | go_values | go_skip | go_guarded | go_step | go_upon)
      refine (idx_any _ _ 0 _ (by decide)).mono ?_
      rintro e w1 ⟨rfl, hb1⟩
      obtain ⟨hc1, hf1⟩ := bcell hb1
      have hz1 := hb1.size
      try simp at hz1
      dsimp only
      repeat (first | go_values | go_skip | go_guarded | go_step | go_upon)
      go_ret
      exact ⟨rfl, (by repeat (first | exact Below.refl _ _ | assumption | refine bal ?_ _ | refine bdr ?_ | refine bdrn ?_ _ | (refine bset ?_ (by first | exact Nat.le_refl _ | (simp; done) | (simp; omega) | omega) _) | refine bstep ?_ (by assumption)))⟩
    · go_enter Tryd.func60, Tryd.ntmps60
      repeat (first | go_values | go_skip | go_guarded | go_step | go_upon)
      refine (idx_any _ _ 1 _ (by decide)).mono ?_
      rintro e w1 ⟨rfl, hb1⟩
      obtain ⟨hc1, hf1⟩ := bcell hb1
      have hz1 := hb1.size
      try simp at hz1
      dsimp only
      repeat (first | go_values | go_skip | go_guarded | go_step | go_upon)
      go_ret
      exact ⟨rfl, (by repeat (first | exact Below.refl _ _ | assumption | refine bal ?_ _ | refine bdr ?_ | refine bdrn ?_ _ | (refine bset ?_ (by first | exact Nat.le_refl _ | (simp; done) | (simp; omega) | omega) _) | refine bstep ?_ (by assumption)))⟩
    · go_enter Tryd.func60, Tryd.ntmps60
      repeat (first | go_values | go_skip | go_guarded | go_step | go_upon)
      refine (idx_any _ _ 2 _ (by decide)).mono ?_
      rintro e w1 ⟨rfl, hb1⟩
      obtain ⟨hc1, hf1⟩ := bcell hb1
      have hz1 := hb1.size
      try simp at hz1
      dsimp only
      repeat (first | go_values | go_skip | go_guarded | go_step | go_upon)
      go_ret
      exact ⟨rfl, (by repeat (first | exact Below.refl _ _ | assumption | refine bal ?_ _ | refine bdr ?_ | refine bdrn ?_ _ | (refine bset ?_ (by first | exact Nat.le_refl _ | (simp; done) | (simp; omega) | omega) _) | refine bstep ?_ (by assumption)))⟩
  · rcases five_list h with rfl | rfl | rfl | rfl | rfl
    all_goals
      clear h
      go_enter Tryd.func60, Tryd.ntmps60
      repeat (first | go_values | go_skip | go_guarded | go_step | go_upon)
      refine (idx_any _ _ _ _ rfl).mono ?_
      rintro e w1 ⟨rfl, hb1⟩
      obtain ⟨hc1, hf1⟩ := bcell hb1
      have hz1 := hb1.size
      try simp at hz1
      dsimp only
      repeat (first | go_values | go_skip | go_guarded | go_step | go_upon)
      refine (idx_any _ _ _ _ rfl).mono ?_
      rintro e w2 ⟨rfl, hb2⟩
      obtain ⟨hc2, hf2⟩ := bcell hb2
      have hz2 := hb2.size
      try simp at hz2
      dsimp only
      repeat (first | go_values | go_skip | go_guarded | go_step | go_upon)
      go_ret
      exact ⟨rfl, (by repeat (first | exact Below.refl _ _ | assumption | refine bal ?_ _ | refine bdr ?_ | refine bdrn ?_ _ | (refine bset ?_ (by first | exact Nat.le_refl _ | (simp; done) | (simp; omega) | omega) _) | refine bstep ?_ (by assumption)))⟩
  · have hs := Lib.hid (sgn_plain h n1 n2 n3 l1 l2)
    have i1 := Lib.hid (stand_no b hb n1 n2 n3)
    have i2 := Lib.hid (marked_no b hb h)
    have d1 : decide ((b : Int) < 32) = false := by simp; omega
    have d2 : decide ((126 : Int) < b) = false := by simp; omega
    clear h n1 n2 n3
    go_enter Tryd.func60, Tryd.ntmps60
    repeat (first | go_values | go_skip | go_guarded | go_step | go_upon)
    refine (idx_any _ _ _ _ i1.out).mono ?_
    rintro e w1 ⟨rfl, hb1⟩
    obtain ⟨hc1, hf1⟩ := bcell hb1
    have hz1 := hb1.size
    try simp at hz1
    dsimp only
    repeat (first | go_values | go_skip | go_guarded | go_step | go_upon)
    refine (idx_any _ _ _ _ i2.out).mono ?_
    rintro e w2 ⟨rfl, hb2⟩
    obtain ⟨hc2, hf2⟩ := bcell hb2
    have hz2 := hb2.size
    try simp at hz2
    dsimp only
    repeat (first | go_values | go_skip | go_guarded | go_step | go_upon)
    go_ret
    refine ⟨?_, (by repeat (first | exact Below.refl _ _ | assumption | refine bal ?_ _ | refine bdr ?_ | refine bdrn ?_ _ | (refine bset ?_ (by first | exact Nat.le_refl _ | (simp; done) | (simp; omega) | omega) _) | refine bstep ?_ (by assumption)))⟩
    rw [hs.out]
    exact ret_val (congrArg Value.string (enc_one b (by omega)))
  · have hs := Lib.hid (sgn_hex h n1 n2 n3 l)
    have i1 := Lib.hid (stand_no b hb n1 n2 n3)
    clear h n1 n2 n3
    have e1 : (b : Int) / 16 = ((b / 16 : Nat) : Int) := by omega
    have e2 : bits .and .u8 (b : Int) 15 = ((b % 16 : Nat) : Int) := and15 b hb
    have h1 := Lib.hid (hexd_at (b / 16) (by omega))
    have h2 := Lib.hid (hexd_at (b % 16) (by omega))
    have k1 : b / 16 < 16 := by omega
    have k2 : b % 16 < 16 := by omega
    generalize b / 16 = p at *
    generalize b % 16 = q at *
    rcases l with l | l
    · have d1 : decide ((b : Int) < 32) = true := by simp; omega
      go_enter Tryd.func60, Tryd.ntmps60
      repeat (first | go_values | go_skip | go_guarded | go_step | go_upon)
      refine (idx_any _ _ _ _ i1.out).mono ?_
      rintro e w1 ⟨rfl, hb1⟩
      obtain ⟨hc1, hf1⟩ := bcell hb1
      have hz1 := hb1.size
      try simp at hz1
      dsimp only
      repeat (first | go_values | go_skip | go_guarded | go_step | go_upon)
      go_region
      repeat (first | go_values | go_skip | go_guarded | go_step | go_upon)
      go_ret
      refine ⟨?_, (by repeat (first | exact Below.refl _ _ | assumption | refine bal ?_ _ | refine bdr ?_ | refine bdrn ?_ _ | (refine bset ?_ (by first | exact Nat.le_refl _ | (simp; done) | (simp; omega) | omega) _) | refine bstep ?_ (by assumption)))⟩
      rw [hs.out, h1.out, h2.out]
      rfl
    · have d1 : decide ((b : Int) < 32) = false := by simp; omega
      have d2 : decide ((126 : Int) < b) = true := by simp; omega
      go_enter Tryd.func60, Tryd.ntmps60
      repeat (first | go_values | go_skip | go_guarded | go_step | go_upon)
      refine (idx_any _ _ _ _ i1.out).mono ?_
      rintro e w1 ⟨rfl, hb1⟩
      obtain ⟨hc1, hf1⟩ := bcell hb1
      have hz1 := hb1.size
      try simp at hz1
      dsimp only
      repeat (first | go_values | go_skip | go_guarded | go_step | go_upon)
      go_region
      repeat (first | go_values | go_skip | go_guarded | go_step | go_upon)
      go_ret
      refine ⟨?_, (by repeat (first | exact Below.refl _ _ | assumption | refine bal ?_ _ | refine bdr ?_ | refine bdrn ?_ _ | (refine bset ?_ (by first | exact Nat.le_refl _ | (simp; done) | (simp; omega) | omega) _) | refine bstep ?_ (by assumption)))⟩
      rw [hs.out, h1.out, h2.out]
      rfl
end Go.Proofs.YtlohpplpnddfaaaDoor
