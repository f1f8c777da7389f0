/- The walk of ClassCut. -/
import Derived.Test.YtlohpplpnddfaaaDoorReadsW
import Derived.Test.YtlohpplpnddfaaaDoorTxtW
import Derived.Test.YtlohpplpnddfaaaDoorParL
import Derived.OpenShut
namespace Go.Proofs.YtlohpplpnddfaaaDoor
open Go.RowKit Go.Sort

theorem cbl_mk (l : List UInt8) : bl ⟨l.toArray⟩ = l := by simp [bl]
theorem cbl_extract (A : ByteArray) (a b : Nat) : bl (A.extract a b) = ((bl A).take b).drop a := by
  simp [bl, ByteArray.data_extract, List.drop_take]
theorem ctxt_bd (c : BitVec 256) : 2 ≤ (txt c).length ∧ (txt c).length ≤ 2400 := by
  have h1 := txK_len (runs c) (runs c).length
  have h2 : (runs c).length ≤ 257 := runs_len c 257 _
  have h3 := txt_length c
  have h4 : (txt c).length = (txK (runs c) (runs c).length).length + 1 := by rw [txt]; simp
  omega
theorem cut_bl (c : BitVec 256) (k : Nat) : bl ((⟨(txt c).toArray⟩ : ByteArray).extract 0 k) = (txt c).take k := by
  rw [cbl_extract, cbl_mk, List.drop_zero]
theorem cut_parsed (c : BitVec 256) (k : Nat) (h : k < (txt c).length) : parsed (bl ((⟨(txt c).toArray⟩ : ByteArray).extract 0 k)) = .inl (3, k) := by
  rw [cut_bl]
  have := parsed_txt c []
  rw [List.append_nil] at this
  exact parsed_cut this h
theorem cut_size (c : BitVec 256) (k : Nat) : ((⟨(txt c).toArray⟩ : ByteArray).extract 0 k).size ≤ 140737488355328 := by
  have := ctxt_bd c
  rw [← bl_length, cut_bl, List.length_take]; omega
set_option maxRecDepth 100000 in
set_option maxHeartbeats 1600000 in
theorem cut_any (c : BitVec 256) (x : Int) (w : World) (hg : Laid w) (hx : (Lit.int .i64 x).wf = true) : Calls Tryd.prog 6 #[.agg #[.int .u64 (wd c 0), .int .u64 (wd c 1), .int .u64 (wd c 2), .int .u64 (wd c 3)], .int .i64 x] w (Ans (.bool true) w) := by
  have hbd := ctxt_bd c
  have HG := Lib.hid hg
  clear hg
  have z4 : ∀ w, (Op.equalIn 10000 24 (.agg #[.int .u64 0, .int .u64 0, .int .u64 0, .int .u64 0]) (.agg #[.int .u64 0, .int .u64 0, .int .u64 0, .int .u64 0])).run Tryd.prog w = .ok true w := fun w => by rw [equal_cl4]; rfl
  have f5 := guard_cl
  by_cases h0 : x < 0
  · have d1 : decide (x < 0) = true := by simpa using h0
    clear hx h0
    go_enter Tryd.func6, Tryd.ntmps6
    repeat (first | go_values | go_skip | go_guarded | go_step | go_upon)
    refine (text_any _ _).mono ?_
    rintro e w1 ⟨rfl, hb1⟩
    obtain ⟨hc1, hf1⟩ := bcell hb1
    have hz1 := hb1.size
    try simp at hz1
    have q1_0 : w.heap.size < w1.heap.size := by omega
    dsimp only
    repeat (first | go_values | go_skip | go_guarded | go_step | go_upon)
    go_ret
    exact ⟨rfl, (by repeat (first | exact Below.refl _ _ | assumption | refine bal ?_ _ | refine bdr ?_ | refine bdrn ?_ _ | (refine bset ?_ (by first | exact Nat.le_refl _ | (simp; done) | (simp; omega) | omega) _) | refine bstep ?_ (by assumption)))⟩
  · obtain ⟨m, rfl⟩ := Int.eq_ofNat_of_zero_le (Int.not_lt.1 h0)
    have hlt : m % (txt c).length < (txt c).length := Nat.mod_lt _ (by omega)
    have HP := Lib.hid (cut_parsed c (m % (txt c).length) hlt)
    have HZ := Lib.hid (cut_size c (m % (txt c).length))
    have ek : (m : Int) % ((txt c).length : Int) = ((m % (txt c).length : Nat) : Int) := by omega
    have d1 : decide ((m : Int) < 0) = false := by simp
    have d2 : decide (((txt c).length : Int) < 2) = false := by simp; omega
    have d3 : ((txt c).length : Int) ≠ 0 := by omega
    have hm1 := bounds_i64 hx
    clear hx h0
    generalize m % (txt c).length = k at *
    have d5 : k ≤ (txt c).length := by omega
    go_enter Tryd.func6, Tryd.ntmps6
    repeat (first | go_values | go_skip | go_guarded | go_step | go_upon)
    refine (text_any _ _).mono ?_
    rintro e w1 ⟨rfl, hb1⟩
    obtain ⟨hc1, hf1⟩ := bcell hb1
    have hz1 := hb1.size
    try simp at hz1
    have q1_0 : w.heap.size < w1.heap.size := by omega
    dsimp only
    repeat (first | go_values | go_skip | go_guarded | go_step | go_upon)
    refine (parse_no _ _ HZ.out HP.out).mono ?_
    rintro e w2 ⟨⟨p, rfl, hp, hl⟩, hb2⟩
    have HF := Lib.hid hp
    clear hp
    have hz2 := hb2.size
    have q2 : w.heap.size < w2.heap.size := by omega
    dsimp only [cls0]
    have HW := Lib.hid (fun (W : World) (h : Below w2.heap.size w2 W) => fault_below HF.out h)
    have HL := Lib.hid (fun (W : World) (h : Below w2.heap.size w2 W) => HG.out.below (B := w.heap.size) (bstep (bstep (bstep (bal (Below.refl _ _) _) hb1) hb2) h) HG.out.pos)
    repeat (first | go_values | go_skip | go_guarded | go_step | go_upon)
    refine (code_at (x := 3) (HL.out _ (by repeat (first | exact Below.refl _ _ | assumption | refine bal ?_ _ | refine bdr ?_ | refine bdrn ?_ _ | (refine bset ?_ (by first | exact Nat.le_refl _ | (simp; done) | (simp; omega) | omega) _) | refine bstep ?_ (by assumption)))) (HW.out _ (by repeat (first | exact Below.refl _ _ | assumption | refine bal ?_ _ | refine bdr ?_ | refine bdrn ?_ _ | (refine bset ?_ (by first | exact Nat.le_refl _ | (simp; done) | (simp; omega) | omega) _) | refine bstep ?_ (by assumption)))) rfl).mono ?_
    rintro e w4 ⟨rfl, hb4⟩
    obtain ⟨hc4, hf4⟩ := bcell hb4
    have hz4 := hb4.size
    try simp at hz4
    have q4_0 : w2.heap.size < w4.heap.size := by omega
    dsimp only
    repeat (first | go_values | go_skip | go_guarded | go_step | go_upon)
    refine (at_at (x := (k : Int)) (HL.out _ (by repeat (first | exact Below.refl _ _ | assumption | refine bal ?_ _ | refine bdr ?_ | refine bdrn ?_ _ | (refine bset ?_ (by first | exact Nat.le_refl _ | (simp; done) | (simp; omega) | omega) _) | refine bstep ?_ (by assumption)))) (HW.out _ (by repeat (first | exact Below.refl _ _ | assumption | refine bal ?_ _ | refine bdr ?_ | refine bdrn ?_ _ | (refine bset ?_ (by first | exact Nat.le_refl _ | (simp; done) | (simp; omega) | omega) _) | refine bstep ?_ (by assumption)))) rfl).mono ?_
    rintro e w5 ⟨rfl, hb5⟩
    obtain ⟨hc5, hf5⟩ := bcell hb5
    have hz5 := hb5.size
    try simp at hz5
    have q5_0 : w2.heap.size < w5.heap.size := by omega
    dsimp only
    repeat (first | go_values | go_skip | go_guarded | go_step | go_upon)
    go_ret
    exact ⟨rfl, (by repeat (first | exact Below.refl _ _ | assumption | refine bal ?_ _ | refine bdr ?_ | refine bdrn ?_ _ | (refine bset ?_ (by first | exact Nat.le_refl _ | (simp; done) | (simp; omega) | omega) _) | refine bstep ?_ (by assumption)))⟩
end Go.Proofs.YtlohpplpnddfaaaDoor
