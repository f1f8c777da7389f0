/- The walk of lex.cutter's method escape. -/
import Derived.Test.YtjlcoldnhbkcgaaGreatDoorG7
namespace Go.Proofs.YtjlcoldnhbkcgaaGreatDoor
open Go.RowKit Go.Sort

/-- An escape was read, or what is wrong. -/
def EscP (w : World) (g : Got Nat) (e : Ending) (w' : World) : Prop :=
  match g with
  | .inr (c, n) => e = .returned (.tuple #[.int .u8 (c : Int), .int .i64 (n : Int), .nilIface]) ∧ Below w.heap.size w w'
  | .inl er => AnsFault er w (fun v => .tuple #[.int .u8 0, .int .i64 0, v]) e w' ∧ Below w.heap.size w w'
theorem EscP.ok {w w' : World} {g : Got Nat} {e : Ending} {c n : Nat} {x y : Int} (hg : g = .inr (c, n)) (hx : x = c) (hy : y = n) (he : e = .returned (.tuple #[.int .u8 x, .int .i64 y, .nilIface])) (h : Below w.heap.size w w') : EscP w g e w' := by
  subst hg hx hy; exact ⟨he, h⟩
theorem EscP.no {w w' : World} {g : Got Nat} {er : Nat × Nat} {e : Ending} {p : Nat} (hg : g = .inl er) (he : e = .returned (.tuple #[.int .u8 0, .int .i64 0, .iface 79 (.pointer (some ⟨p, 0, none⟩))])) (hp : FaultAt p er w') (hl : w.heap.size ≤ p) (h : Below w.heap.size w w') :
    EscP w g e w' := by
  subst hg; exact ⟨⟨p, he, hp, hl⟩, h⟩
theorem cu_grown0 {C : Nat} {S : ByteArray} {a : Nat} {l : List Tok} {w : World} (h : CU C S a l w) (d : Nat) (os : Array Obj) : (grow (redrawn w d) os).cell? ⟨C, 0, none⟩ = some (.string S) := by
  rw [grown_cell w d os ⟨C, 0, none⟩ h.lt]; exact h.cells.1
theorem cu_grown1 {C : Nat} {S : ByteArray} {a : Nat} {l : List Tok} {w : World} (h : CU C S a l w) (d : Nat) (os : Array Obj) : (grow (redrawn w d) os).cell? ⟨C, 1, none⟩ = some (.int .i64 (a : Int)) := by
  rw [grown_cell w d os ⟨C, 1, none⟩ h.lt]; exact h.cells.2
theorem orD0 : ∀ x : Nat, x < 16 → bits .or .i64 0 (x : Int) = (x : Int) := by decide +kernel
theorem orD : ∀ x y : Nat, x < 16 → y < 16 → bits .or .i64 ((x : Int) * 16) (y : Int) = ((16 * x + y : Nat) : Int) := by
  have : ∀ x : Nat, x < 16 → ∀ y : Nat, y < 16 → bits .or .i64 ((x : Int) * 16) (y : Int) = ((16 * x + y : Nat) : Int) := by decide +kernel
  exact fun x y hx hy => this x hx y hy
set_option maxRecDepth 100000 in
set_option maxHeartbeats 3200000 in
theorem esc_end (C : Nat) (S : ByteArray) (a : Nat) (l : List Tok) (b : Nat) (w : World) (h : CU C S a l w) (hs : S.size ≤ 140737488355328) (hb : b ≤ S.size) (h1 : S.size ≤ b + 1) :
    Calls Tryz.prog 115 #[.pointer (some ⟨C, 0, none⟩), .int .i64 (b : Int)] w (EscP w (lescAt (bl S) (b + 1))) := by
  have HC := Lib.hid h
  have hlt := h.lt
  obtain ⟨c0, c1⟩ := h.cells
  clear h
  have ei : ((b : Int) + 1).toNat = b + 1 := by omega
  have b0 : 0 ≤ (b : Int) + 1 := by omega
  have d1 : decide ((S.size : Int) ≤ (b : Int) + 1) = true := by simp; omega
  have HG := Lib.hid (show lescAt (bl S) (b + 1) = .inl (wrongAt (bl S) (b + 1)) by rw [lescAt, byteAt_bge h1, if_neg (by decide), if_neg (by decide), if_neg (by decide), if_neg (by decide), if_neg (by decide)])
  clear h1
  go_enter Tryz.func115, Tryz.ntmps115
  repeat (first | go_values | go_skip | go_guarded | go_step | go_upon)
  refine (lwrong_any C S a l _ (b + 1) _ HC.out (by omega) hs).mono ?_
  rintro e w9 ⟨⟨p, rfl, hp, hl⟩, hb9⟩
  dsimp only [id]
  repeat (first | go_values | go_skip | go_guarded | go_step | go_upon)
  go_ret3
  exact EscP.no HG.out rfl hp (by simpa using hl) ((by repeat (first | exact Below.refl _ _ | assumption | refine bal ?_ _ | refine bdr ?_ | refine bdrn ?_ _ | (refine bset ?_ (by first | exact Nat.le_refl _ | (simp; done) | (simp; omega) | omega) _) | refine bstep ?_ (by assumption))))
set_option maxRecDepth 100000 in
set_option maxHeartbeats 3200000 in
theorem esc_n (C : Nat) (S : ByteArray) (a : Nat) (l : List Tok) (b : Nat) (w : World) (h : CU C S a l w) (hs : S.size ≤ 140737488355328) (_ : b ≤ S.size) (h1 : b + 1 < S.size) (hc : byteAt (bl S) (b + 1) = 110) :
    Calls Tryz.prog 115 #[.pointer (some ⟨C, 0, none⟩), .int .i64 (b : Int)] w (EscP w (lescAt (bl S) (b + 1))) := by
  have HC := Lib.hid h
  have hlt := h.lt
  obtain ⟨c0, c1⟩ := h.cells
  clear h
  have ei : ((b : Int) + 1).toNat = b + 1 := by omega
  have b0 : 0 ≤ (b : Int) + 1 := by omega
  have b1 : (b : Int) + 1 < S.size := by omega
  have d1 : decide ((S.size : Int) ≤ (b : Int) + 1) = false := by simp; omega
  have hv := byteAt_ba h1
  have h256 := UInt8.toNat_lt S[b + 1]
  have k110 : ((S[b + 1].toNat : Int) == 110) = true := by rw [← hv]; simp; omega
  have HG := Lib.hid (show lescAt (bl S) (b + 1) = .inr (10, b + 1 + 1) by rw [lescAt, hc]; rfl)
  clear hv hc
  go_enter Tryz.func115, Tryz.ntmps115
  repeat (first | go_values | go_skip | go_guarded | go_step | go_upon)
  go_ret3
  exact EscP.ok HG.out rfl (by omega) rfl ((by repeat (first | exact Below.refl _ _ | assumption | refine bal ?_ _ | refine bdr ?_ | refine bdrn ?_ _ | (refine bset ?_ (by first | exact Nat.le_refl _ | (simp; done) | (simp; omega) | omega) _) | refine bstep ?_ (by assumption))))
set_option maxRecDepth 100000 in
set_option maxHeartbeats 3200000 in
theorem esc_r (C : Nat) (S : ByteArray) (a : Nat) (l : List Tok) (b : Nat) (w : World) (h : CU C S a l w) (hs : S.size ≤ 140737488355328) (_ : b ≤ S.size) (h1 : b + 1 < S.size) (hc : byteAt (bl S) (b + 1) = 114) :
    Calls Tryz.prog 115 #[.pointer (some ⟨C, 0, none⟩), .int .i64 (b : Int)] w (EscP w (lescAt (bl S) (b + 1))) := by
  have HC := Lib.hid h
  have hlt := h.lt
  obtain ⟨c0, c1⟩ := h.cells
  clear h
  have ei : ((b : Int) + 1).toNat = b + 1 := by omega
  have b0 : 0 ≤ (b : Int) + 1 := by omega
  have b1 : (b : Int) + 1 < S.size := by omega
  have d1 : decide ((S.size : Int) ≤ (b : Int) + 1) = false := by simp; omega
  have hv := byteAt_ba h1
  have h256 := UInt8.toNat_lt S[b + 1]
  have k110 : ((S[b + 1].toNat : Int) == 110) = false := by rw [← hv]; simp; omega
  have k114 : ((S[b + 1].toNat : Int) == 114) = true := by rw [← hv]; simp; omega
  have HG := Lib.hid (show lescAt (bl S) (b + 1) = .inr (13, b + 1 + 1) by rw [lescAt, hc]; rfl)
  clear hv hc
  go_enter Tryz.func115, Tryz.ntmps115
  repeat (first | go_values | go_skip | go_guarded | go_step | go_upon)
  go_ret3
  exact EscP.ok HG.out rfl (by omega) rfl ((by repeat (first | exact Below.refl _ _ | assumption | refine bal ?_ _ | refine bdr ?_ | refine bdrn ?_ _ | (refine bset ?_ (by first | exact Nat.le_refl _ | (simp; done) | (simp; omega) | omega) _) | refine bstep ?_ (by assumption))))
set_option maxRecDepth 100000 in
set_option maxHeartbeats 3200000 in
theorem esc_t (C : Nat) (S : ByteArray) (a : Nat) (l : List Tok) (b : Nat) (w : World) (h : CU C S a l w) (hs : S.size ≤ 140737488355328) (_ : b ≤ S.size) (h1 : b + 1 < S.size) (hc : byteAt (bl S) (b + 1) = 116) :
    Calls Tryz.prog 115 #[.pointer (some ⟨C, 0, none⟩), .int .i64 (b : Int)] w (EscP w (lescAt (bl S) (b + 1))) := by
  have HC := Lib.hid h
  have hlt := h.lt
  obtain ⟨c0, c1⟩ := h.cells
  clear h
  have ei : ((b : Int) + 1).toNat = b + 1 := by omega
  have b0 : 0 ≤ (b : Int) + 1 := by omega
  have b1 : (b : Int) + 1 < S.size := by omega
  have d1 : decide ((S.size : Int) ≤ (b : Int) + 1) = false := by simp; omega
  have hv := byteAt_ba h1
  have h256 := UInt8.toNat_lt S[b + 1]
  have k110 : ((S[b + 1].toNat : Int) == 110) = false := by rw [← hv]; simp; omega
  have k114 : ((S[b + 1].toNat : Int) == 114) = false := by rw [← hv]; simp; omega
  have k116 : ((S[b + 1].toNat : Int) == 116) = true := by rw [← hv]; simp; omega
  have HG := Lib.hid (show lescAt (bl S) (b + 1) = .inr (9, b + 1 + 1) by rw [lescAt, hc]; rfl)
  clear hv hc
  go_enter Tryz.func115, Tryz.ntmps115
  repeat (first | go_values | go_skip | go_guarded | go_step | go_upon)
  go_ret3
  exact EscP.ok HG.out rfl (by omega) rfl ((by repeat (first | exact Below.refl _ _ | assumption | refine bal ?_ _ | refine bdr ?_ | refine bdrn ?_ _ | (refine bset ?_ (by first | exact Nat.le_refl _ | (simp; done) | (simp; omega) | omega) _) | refine bstep ?_ (by assumption))))
set_option maxRecDepth 100000 in
set_option maxHeartbeats 3200000 in
theorem esc_bs (C : Nat) (S : ByteArray) (a : Nat) (l : List Tok) (b : Nat) (w : World) (h : CU C S a l w) (hs : S.size ≤ 140737488355328) (_ : b ≤ S.size) (h1 : b + 1 < S.size) (hc : byteAt (bl S) (b + 1) = 92) :
    Calls Tryz.prog 115 #[.pointer (some ⟨C, 0, none⟩), .int .i64 (b : Int)] w (EscP w (lescAt (bl S) (b + 1))) := by
  have HC := Lib.hid h
  have hlt := h.lt
  obtain ⟨c0, c1⟩ := h.cells
  clear h
  have ei : ((b : Int) + 1).toNat = b + 1 := by omega
  have b0 : 0 ≤ (b : Int) + 1 := by omega
  have b1 : (b : Int) + 1 < S.size := by omega
  have d1 : decide ((S.size : Int) ≤ (b : Int) + 1) = false := by simp; omega
  have hv := byteAt_ba h1
  have h256 := UInt8.toNat_lt S[b + 1]
  have k110 : ((S[b + 1].toNat : Int) == 110) = false := by rw [← hv]; simp; omega
  have k114 : ((S[b + 1].toNat : Int) == 114) = false := by rw [← hv]; simp; omega
  have k116 : ((S[b + 1].toNat : Int) == 116) = false := by rw [← hv]; simp; omega
  have k92 : ((S[b + 1].toNat : Int) == 92) = true := by rw [← hv]; simp; omega
  have hq : (S[b + 1].toNat : Int) = 92 := by rw [← hv, hc]; rfl
  have HG := Lib.hid (show lescAt (bl S) (b + 1) = .inr (92, b + 1 + 1) by rw [lescAt, hc]; rfl)
  clear hv hc
  go_enter Tryz.func115, Tryz.ntmps115
  repeat (first | go_values | go_skip | go_guarded | go_step | go_upon)
  go_ret3
  exact EscP.ok HG.out (by omega) (by omega) rfl ((by repeat (first | exact Below.refl _ _ | assumption | refine bal ?_ _ | refine bdr ?_ | refine bdrn ?_ _ | (refine bset ?_ (by first | exact Nat.le_refl _ | (simp; done) | (simp; omega) | omega) _) | refine bstep ?_ (by assumption))))
set_option maxRecDepth 100000 in
set_option maxHeartbeats 3200000 in
theorem esc_dq (C : Nat) (S : ByteArray) (a : Nat) (l : List Tok) (b : Nat) (w : World) (h : CU C S a l w) (hs : S.size ≤ 140737488355328) (_ : b ≤ S.size) (h1 : b + 1 < S.size) (hc : byteAt (bl S) (b + 1) = 34) :
    Calls Tryz.prog 115 #[.pointer (some ⟨C, 0, none⟩), .int .i64 (b : Int)] w (EscP w (lescAt (bl S) (b + 1))) := by
  have HC := Lib.hid h
  have hlt := h.lt
  obtain ⟨c0, c1⟩ := h.cells
  clear h
  have ei : ((b : Int) + 1).toNat = b + 1 := by omega
  have b0 : 0 ≤ (b : Int) + 1 := by omega
  have b1 : (b : Int) + 1 < S.size := by omega
  have d1 : decide ((S.size : Int) ≤ (b : Int) + 1) = false := by simp; omega
  have hv := byteAt_ba h1
  have h256 := UInt8.toNat_lt S[b + 1]
  have k110 : ((S[b + 1].toNat : Int) == 110) = false := by rw [← hv]; simp; omega
  have k114 : ((S[b + 1].toNat : Int) == 114) = false := by rw [← hv]; simp; omega
  have k116 : ((S[b + 1].toNat : Int) == 116) = false := by rw [← hv]; simp; omega
  have k92 : ((S[b + 1].toNat : Int) == 92) = false := by rw [← hv]; simp; omega
  have k34 : ((S[b + 1].toNat : Int) == 34) = true := by rw [← hv]; simp; omega
  have hq : (S[b + 1].toNat : Int) = 34 := by rw [← hv, hc]; rfl
  have HG := Lib.hid (show lescAt (bl S) (b + 1) = .inr (34, b + 1 + 1) by rw [lescAt, hc]; rfl)
  clear hv hc
  go_enter Tryz.func115, Tryz.ntmps115
  repeat (first | go_values | go_skip | go_guarded | go_step | go_upon)
  go_ret3
  exact EscP.ok HG.out (by omega) (by omega) rfl ((by repeat (first | exact Below.refl _ _ | assumption | refine bal ?_ _ | refine bdr ?_ | refine bdrn ?_ _ | (refine bset ?_ (by first | exact Nat.le_refl _ | (simp; done) | (simp; omega) | omega) _) | refine bstep ?_ (by assumption))))
set_option maxRecDepth 100000 in
set_option maxHeartbeats 3200000 in
theorem esc_sq (C : Nat) (S : ByteArray) (a : Nat) (l : List Tok) (b : Nat) (w : World) (h : CU C S a l w) (hs : S.size ≤ 140737488355328) (_ : b ≤ S.size) (h1 : b + 1 < S.size) (hc : byteAt (bl S) (b + 1) = 39) :
    Calls Tryz.prog 115 #[.pointer (some ⟨C, 0, none⟩), .int .i64 (b : Int)] w (EscP w (lescAt (bl S) (b + 1))) := by
  have HC := Lib.hid h
  have hlt := h.lt
  obtain ⟨c0, c1⟩ := h.cells
  clear h
  have ei : ((b : Int) + 1).toNat = b + 1 := by omega
  have b0 : 0 ≤ (b : Int) + 1 := by omega
  have b1 : (b : Int) + 1 < S.size := by omega
  have d1 : decide ((S.size : Int) ≤ (b : Int) + 1) = false := by simp; omega
  have hv := byteAt_ba h1
  have h256 := UInt8.toNat_lt S[b + 1]
  have k110 : ((S[b + 1].toNat : Int) == 110) = false := by rw [← hv]; simp; omega
  have k114 : ((S[b + 1].toNat : Int) == 114) = false := by rw [← hv]; simp; omega
  have k116 : ((S[b + 1].toNat : Int) == 116) = false := by rw [← hv]; simp; omega
  have k92 : ((S[b + 1].toNat : Int) == 92) = false := by rw [← hv]; simp; omega
  have k34 : ((S[b + 1].toNat : Int) == 34) = false := by rw [← hv]; simp; omega
  have k39 : ((S[b + 1].toNat : Int) == 39) = true := by rw [← hv]; simp; omega
  have hq : (S[b + 1].toNat : Int) = 39 := by rw [← hv, hc]; rfl
  have HG := Lib.hid (show lescAt (bl S) (b + 1) = .inr (39, b + 1 + 1) by rw [lescAt, hc]; rfl)
  clear hv hc
  go_enter Tryz.func115, Tryz.ntmps115
  repeat (first | go_values | go_skip | go_guarded | go_step | go_upon)
  go_ret3
  exact EscP.ok HG.out (by omega) (by omega) rfl ((by repeat (first | exact Below.refl _ _ | assumption | refine bal ?_ _ | refine bdr ?_ | refine bdrn ?_ _ | (refine bset ?_ (by first | exact Nat.le_refl _ | (simp; done) | (simp; omega) | omega) _) | refine bstep ?_ (by assumption))))
set_option maxRecDepth 100000 in
set_option maxHeartbeats 3200000 in
theorem esc_no (C : Nat) (S : ByteArray) (a : Nat) (l : List Tok) (b : Nat) (w : World) (h : CU C S a l w) (hs : S.size ≤ 140737488355328) (_ : b ≤ S.size) (h1 : b + 1 < S.size) (n1 : byteAt (bl S) (b + 1) ≠ 110) (n2 : byteAt (bl S) (b + 1) ≠ 114) (n3 : byteAt (bl S) (b + 1) ≠ 116) (n4 : ¬ (byteAt (bl S) (b + 1) = 92 ∨ byteAt (bl S) (b + 1) = 34 ∨ byteAt (bl S) (b + 1) = 39)) (n5 : byteAt (bl S) (b + 1) ≠ 120) :
    Calls Tryz.prog 115 #[.pointer (some ⟨C, 0, none⟩), .int .i64 (b : Int)] w (EscP w (lescAt (bl S) (b + 1))) := by
  have HC := Lib.hid h
  have hlt := h.lt
  obtain ⟨c0, c1⟩ := h.cells
  clear h
  have ei : ((b : Int) + 1).toNat = b + 1 := by omega
  have b0 : 0 ≤ (b : Int) + 1 := by omega
  have b1 : (b : Int) + 1 < S.size := by omega
  have d1 : decide ((S.size : Int) ≤ (b : Int) + 1) = false := by simp; omega
  have hv := byteAt_ba h1
  have h256 := UInt8.toNat_lt S[b + 1]
  have k110 : ((S[b + 1].toNat : Int) == 110) = false := by rw [← hv]; simp; omega
  have k114 : ((S[b + 1].toNat : Int) == 114) = false := by rw [← hv]; simp; omega
  have k116 : ((S[b + 1].toNat : Int) == 116) = false := by rw [← hv]; simp; omega
  have k92 : ((S[b + 1].toNat : Int) == 92) = false := by rw [← hv]; simp; omega
  have k34 : ((S[b + 1].toNat : Int) == 34) = false := by rw [← hv]; simp; omega
  have k39 : ((S[b + 1].toNat : Int) == 39) = false := by rw [← hv]; simp; omega
  have k120 : ((S[b + 1].toNat : Int) == 120) = false := by rw [← hv]; simp; omega
  have HG := Lib.hid (show lescAt (bl S) (b + 1) = .inl (wrongAt (bl S) (b + 1)) by rw [lescAt, if_neg n1, if_neg n2, if_neg n3, if_neg n4, if_neg n5])
  clear hv n1 n2 n3 n4 n5
  go_enter Tryz.func115, Tryz.ntmps115
  repeat (first | go_values | go_skip | go_guarded | go_step | go_upon)
  refine (lwrong_any C S a l _ (b + 1) _ HC.out (by omega) hs).mono ?_
  rintro e w9 ⟨⟨p, rfl, hp, hl⟩, hb9⟩
  dsimp only [id]
  repeat (first | go_values | go_skip | go_guarded | go_step | go_upon)
  go_ret3
  exact EscP.no HG.out rfl hp (by simpa using hl) ((by repeat (first | exact Below.refl _ _ | assumption | refine bal ?_ _ | refine bdr ?_ | refine bdrn ?_ _ | (refine bset ?_ (by first | exact Nat.le_refl _ | (simp; done) | (simp; omega) | omega) _) | refine bstep ?_ (by assumption))))
set_option maxRecDepth 100000 in
set_option maxHeartbeats 3200000 in
theorem esc_x1 (C : Nat) (S : ByteArray) (a : Nat) (l : List Tok) (b : Nat) (w : World) (h : CU C S a l w) (hs : S.size ≤ 140737488355328) (_ : b ≤ S.size) (h1 : b + 1 < S.size) (hc : byteAt (bl S) (b + 1) = 120) (h2 : S.size ≤ b + 2) :
    Calls Tryz.prog 115 #[.pointer (some ⟨C, 0, none⟩), .int .i64 (b : Int)] w (EscP w (lescAt (bl S) (b + 1))) := by
  have HC := Lib.hid h
  have hlt := h.lt
  obtain ⟨c0, c1⟩ := h.cells
  clear h
  have ei : ((b : Int) + 1).toNat = b + 1 := by omega
  have b0 : 0 ≤ (b : Int) + 1 := by omega
  have b1 : (b : Int) + 1 < S.size := by omega
  have d1 : decide ((S.size : Int) ≤ (b : Int) + 1) = false := by simp; omega
  have hv := byteAt_ba h1
  have h256 := UInt8.toNat_lt S[b + 1]
  have k110 : ((S[b + 1].toNat : Int) == 110) = false := by rw [← hv]; simp; omega
  have k114 : ((S[b + 1].toNat : Int) == 114) = false := by rw [← hv]; simp; omega
  have k116 : ((S[b + 1].toNat : Int) == 116) = false := by rw [← hv]; simp; omega
  have k92 : ((S[b + 1].toNat : Int) == 92) = false := by rw [← hv]; simp; omega
  have k34 : ((S[b + 1].toNat : Int) == 34) = false := by rw [← hv]; simp; omega
  have k39 : ((S[b + 1].toNat : Int) == 39) = false := by rw [← hv]; simp; omega
  have k120 : ((S[b + 1].toNat : Int) == 120) = true := by rw [← hv]; simp; omega
  have ej : ((b : Int) + 2).toNat = b + 2 := by omega
  have j0 : 0 ≤ (b : Int) + 2 := by omega
  have dl : decide ((b : Int) + 2 < (b : Int) + 4) = true := by simp
  have dj : decide ((S.size : Int) ≤ (b : Int) + 2) = true := by simp; omega
  have HG := Lib.hid (show lescAt (bl S) (b + 1) = .inl (wrongAt (bl S) (b + 2)) by rw [lescAt, if_neg (by omega), if_neg (by omega), if_neg (by omega), if_neg (by omega), if_pos hc, hexAt, show b + 1 + 1 = b + 2 from rfl, byteAt_bge h2, if_pos (by decide)])
  clear hv hc
  go_enter Tryz.func115, Tryz.ntmps115
  repeat (first | go_values | go_skip | go_guarded | go_step | go_upon)
  refine wp_loop_rounds 1 ?_
  rw [rounds_succ]
  repeat (first | go_values | go_skip | go_guarded | go_step | go_upon)
  refine (lwrong_any C S a l _ (b + 2) _ HC.out (by omega) hs).mono ?_
  rintro e w9 ⟨⟨p, rfl, hp, hl⟩, hb9⟩
  dsimp only [id]
  repeat (first | go_values | go_skip | go_guarded | go_step | go_upon)
  go_ret3
  exact EscP.no HG.out rfl hp (by simpa using hl) ((by repeat (first | exact Below.refl _ _ | assumption | refine bal ?_ _ | refine bdr ?_ | refine bdrn ?_ _ | (refine bset ?_ (by first | exact Nat.le_refl _ | (simp; done) | (simp; omega) | omega) _) | refine bstep ?_ (by assumption))))
set_option maxRecDepth 100000 in
set_option maxHeartbeats 3200000 in
theorem esc_x2 (C : Nat) (S : ByteArray) (a : Nat) (l : List Tok) (b : Nat) (w : World) (h : CU C S a l w) (hs : S.size ≤ 140737488355328) (_ : b ≤ S.size) (h1 : b + 1 < S.size) (hc : byteAt (bl S) (b + 1) = 120) (h2 : b + 2 < S.size) (hd : digV (byteAt (bl S) (b + 2)) = 16) :
    Calls Tryz.prog 115 #[.pointer (some ⟨C, 0, none⟩), .int .i64 (b : Int)] w (EscP w (lescAt (bl S) (b + 1))) := by
  have HC := Lib.hid h
  have hlt := h.lt
  obtain ⟨c0, c1⟩ := h.cells
  clear h
  have ei : ((b : Int) + 1).toNat = b + 1 := by omega
  have b0 : 0 ≤ (b : Int) + 1 := by omega
  have b1 : (b : Int) + 1 < S.size := by omega
  have d1 : decide ((S.size : Int) ≤ (b : Int) + 1) = false := by simp; omega
  have hv := byteAt_ba h1
  have h256 := UInt8.toNat_lt S[b + 1]
  have k110 : ((S[b + 1].toNat : Int) == 110) = false := by rw [← hv]; simp; omega
  have k114 : ((S[b + 1].toNat : Int) == 114) = false := by rw [← hv]; simp; omega
  have k116 : ((S[b + 1].toNat : Int) == 116) = false := by rw [← hv]; simp; omega
  have k92 : ((S[b + 1].toNat : Int) == 92) = false := by rw [← hv]; simp; omega
  have k34 : ((S[b + 1].toNat : Int) == 34) = false := by rw [← hv]; simp; omega
  have k39 : ((S[b + 1].toNat : Int) == 39) = false := by rw [← hv]; simp; omega
  have k120 : ((S[b + 1].toNat : Int) == 120) = true := by rw [← hv]; simp; omega
  have ej : ((b : Int) + 2).toNat = b + 2 := by omega
  have j0 : 0 ≤ (b : Int) + 2 := by omega
  have dl : decide ((b : Int) + 2 < (b : Int) + 4) = true := by simp
  have hv2 := byteAt_ba h2
  have h2562 := UInt8.toNat_lt S[b + 2]
  have j1 : (b : Int) + 2 < S.size := by omega
  have dj : decide ((S.size : Int) ≤ (b : Int) + 2) = false := by simp; omega
  have H1 := Lib.hid (fun w' => idx_any ⟨#[48, 49, 50, 51, 52, 53, 54, 55, 56, 57, 97, 98, 99, 100, 101, 102]⟩ (S[b + 2].toNat : Int) (-1) w' (by have q := pk_hexes (byteAt (bl S) (b + 2)) (by have := byteAt_le (bl S) (b + 2); omega); rw [if_pos hd, hv2] at q; unfold pk at q; rw [if_pos (UInt8.toNat_lt _)] at q; simpa using q))
  have HG := Lib.hid (show lescAt (bl S) (b + 1) = .inl (wrongAt (bl S) (b + 2)) by rw [lescAt, if_neg (by omega), if_neg (by omega), if_neg (by omega), if_neg (by omega), if_pos hc, hexAt, if_pos hd])
  clear hv hc hv2 hd
  go_enter Tryz.func115, Tryz.ntmps115
  repeat (first | go_values | go_skip | go_guarded | go_step | go_upon)
  refine wp_loop_rounds 1 ?_
  rw [rounds_succ]
  repeat (first | go_values | go_skip | go_guarded | go_step | go_upon)
  refine (H1.out _).mono ?_
  rintro e w1 ⟨rfl, hb1⟩
  have u1 := CU.below HC.out hb1
  obtain ⟨d10, d11⟩ := u1.cells
  dsimp only
  repeat (first | go_values | go_skip | go_guarded | go_step | go_upon)
  refine (lwrong_any C S a l _ (b + 2) _ u1 (by omega) hs).mono ?_
  rintro e w9 ⟨⟨p, rfl, hp, hl⟩, hb9⟩
  dsimp only [id]
  repeat (first | go_values | go_skip | go_guarded | go_step | go_upon)
  go_ret3
  exact EscP.no HG.out rfl hp (Nat.le_trans hb1.size hl) (bstep hb1 hb9)
set_option maxRecDepth 100000 in
set_option maxHeartbeats 3200000 in
theorem esc_x3 (C : Nat) (S : ByteArray) (a : Nat) (l : List Tok) (b : Nat) (w : World) (h : CU C S a l w) (hs : S.size ≤ 140737488355328) (_ : b ≤ S.size) (h1 : b + 1 < S.size) (hc : byteAt (bl S) (b + 1) = 120) (h2 : b + 2 < S.size) (hd : digV (byteAt (bl S) (b + 2)) ≠ 16) (h3 : S.size ≤ b + 3) :
    Calls Tryz.prog 115 #[.pointer (some ⟨C, 0, none⟩), .int .i64 (b : Int)] w (EscP w (lescAt (bl S) (b + 1))) := by
  have HC := Lib.hid h
  have hlt := h.lt
  obtain ⟨c0, c1⟩ := h.cells
  clear h
  have ei : ((b : Int) + 1).toNat = b + 1 := by omega
  have b0 : 0 ≤ (b : Int) + 1 := by omega
  have b1 : (b : Int) + 1 < S.size := by omega
  have d1 : decide ((S.size : Int) ≤ (b : Int) + 1) = false := by simp; omega
  have hv := byteAt_ba h1
  have h256 := UInt8.toNat_lt S[b + 1]
  have k110 : ((S[b + 1].toNat : Int) == 110) = false := by rw [← hv]; simp; omega
  have k114 : ((S[b + 1].toNat : Int) == 114) = false := by rw [← hv]; simp; omega
  have k116 : ((S[b + 1].toNat : Int) == 116) = false := by rw [← hv]; simp; omega
  have k92 : ((S[b + 1].toNat : Int) == 92) = false := by rw [← hv]; simp; omega
  have k34 : ((S[b + 1].toNat : Int) == 34) = false := by rw [← hv]; simp; omega
  have k39 : ((S[b + 1].toNat : Int) == 39) = false := by rw [← hv]; simp; omega
  have k120 : ((S[b + 1].toNat : Int) == 120) = true := by rw [← hv]; simp; omega
  have ej : ((b : Int) + 2).toNat = b + 2 := by omega
  have j0 : 0 ≤ (b : Int) + 2 := by omega
  have dl : decide ((b : Int) + 2 < (b : Int) + 4) = true := by simp
  have hv2 := byteAt_ba h2
  have h2562 := UInt8.toNat_lt S[b + 2]
  have j1 : (b : Int) + 2 < S.size := by omega
  have dj : decide ((S.size : Int) ≤ (b : Int) + 2) = false := by simp; omega
  have H1 := Lib.hid (fun w' => idx_any ⟨#[48, 49, 50, 51, 52, 53, 54, 55, 56, 57, 97, 98, 99, 100, 101, 102]⟩ (S[b + 2].toNat : Int) (digV S[b + 2].toNat : Int) w' (by have q := pk_hexes (byteAt (bl S) (b + 2)) (by have := byteAt_le (bl S) (b + 2); omega); rw [if_neg hd, hv2] at q; unfold pk at q; rw [if_pos (UInt8.toNat_lt _)] at q; simpa using q))
  have l1 := digV_le S[b + 2].toNat
  have l1b : digV S[b + 2].toNat < 16 := by rw [← hv2]; have := digV_le (byteAt (bl S) (b + 2)); omega
  have or1 : bits .or .i64 0 (digV S[b + 2].toNat : Int) = (digV S[b + 2].toNat : Int) := orD0 _ l1b
  have ek : ((b : Int) + 2 + 1).toNat = b + 3 := by omega
  have k0 : 0 ≤ (b : Int) + 2 + 1 := by omega
  have dm : decide ((b : Int) + 2 + 1 < (b : Int) + 4) = true := by simp; omega
  have dk : decide ((S.size : Int) ≤ (b : Int) + 2 + 1) = true := by simp; omega
  have HG := Lib.hid (show lescAt (bl S) (b + 1) = .inl (wrongAt (bl S) (b + 3)) by rw [lescAt, if_neg (by omega), if_neg (by omega), if_neg (by omega), if_neg (by omega), if_pos hc, hexAt, if_neg hd, lowAt, show b + 1 + 1 + 1 = b + 3 from rfl, byteAt_bge h3, if_pos (by decide)])
  clear hv hc hv2 hd h3
  go_enter Tryz.func115, Tryz.ntmps115
  repeat (first | go_values | go_skip | go_guarded | go_step | go_upon)
  refine wp_loop_rounds 2 ?_
  rw [rounds_succ]
  repeat (first | go_values | go_skip | go_guarded | go_step | go_upon)
  refine (H1.out _).mono ?_
  rintro e w1 ⟨rfl, hb1⟩
  have u1 := CU.below HC.out hb1
  obtain ⟨d10, d11⟩ := u1.cells
  dsimp only
  repeat (first | go_values | go_skip | go_guarded | go_step | go_upon)
  refine (H1.out _).mono ?_
  rintro e w2 ⟨rfl, hb2⟩
  have u2 := CU.below u1 hb2
  obtain ⟨d20, d21⟩ := u2.cells
  dsimp only
  repeat (first | go_values | go_skip | go_guarded | go_step | go_upon)
  rw [rounds_succ]
  repeat (first | go_values | go_skip | go_guarded | go_step | go_upon)
  refine (lwrong_any C S a l _ (b + 3) _ u2 (by omega) hs).mono ?_
  rintro e w9 ⟨⟨p, rfl, hp, hl⟩, hb9⟩
  dsimp only [id]
  repeat (first | go_values | go_skip | go_guarded | go_step | go_upon)
  go_ret3
  exact EscP.no HG.out rfl hp (Nat.le_trans (Nat.le_trans hb1.size hb2.size) hl) (bstep (bstep hb1 hb2) hb9)
set_option maxRecDepth 100000 in
set_option maxHeartbeats 3200000 in
theorem esc_x4 (C : Nat) (S : ByteArray) (a : Nat) (l : List Tok) (b : Nat) (w : World) (h : CU C S a l w) (hs : S.size ≤ 140737488355328) (_ : b ≤ S.size) (h1 : b + 1 < S.size) (hc : byteAt (bl S) (b + 1) = 120) (h2 : b + 2 < S.size) (hd : digV (byteAt (bl S) (b + 2)) ≠ 16) (h3 : b + 3 < S.size) (he : digV (byteAt (bl S) (b + 3)) = 16) :
    Calls Tryz.prog 115 #[.pointer (some ⟨C, 0, none⟩), .int .i64 (b : Int)] w (EscP w (lescAt (bl S) (b + 1))) := by
  have HC := Lib.hid h
  have hlt := h.lt
  obtain ⟨c0, c1⟩ := h.cells
  clear h
  have ei : ((b : Int) + 1).toNat = b + 1 := by omega
  have b0 : 0 ≤ (b : Int) + 1 := by omega
  have b1 : (b : Int) + 1 < S.size := by omega
  have d1 : decide ((S.size : Int) ≤ (b : Int) + 1) = false := by simp; omega
  have hv := byteAt_ba h1
  have h256 := UInt8.toNat_lt S[b + 1]
  have k110 : ((S[b + 1].toNat : Int) == 110) = false := by rw [← hv]; simp; omega
  have k114 : ((S[b + 1].toNat : Int) == 114) = false := by rw [← hv]; simp; omega
  have k116 : ((S[b + 1].toNat : Int) == 116) = false := by rw [← hv]; simp; omega
  have k92 : ((S[b + 1].toNat : Int) == 92) = false := by rw [← hv]; simp; omega
  have k34 : ((S[b + 1].toNat : Int) == 34) = false := by rw [← hv]; simp; omega
  have k39 : ((S[b + 1].toNat : Int) == 39) = false := by rw [← hv]; simp; omega
  have k120 : ((S[b + 1].toNat : Int) == 120) = true := by rw [← hv]; simp; omega
  have ej : ((b : Int) + 2).toNat = b + 2 := by omega
  have j0 : 0 ≤ (b : Int) + 2 := by omega
  have dl : decide ((b : Int) + 2 < (b : Int) + 4) = true := by simp
  have hv2 := byteAt_ba h2
  have h2562 := UInt8.toNat_lt S[b + 2]
  have j1 : (b : Int) + 2 < S.size := by omega
  have dj : decide ((S.size : Int) ≤ (b : Int) + 2) = false := by simp; omega
  have H1 := Lib.hid (fun w' => idx_any ⟨#[48, 49, 50, 51, 52, 53, 54, 55, 56, 57, 97, 98, 99, 100, 101, 102]⟩ (S[b + 2].toNat : Int) (digV S[b + 2].toNat : Int) w' (by have q := pk_hexes (byteAt (bl S) (b + 2)) (by have := byteAt_le (bl S) (b + 2); omega); rw [if_neg hd, hv2] at q; unfold pk at q; rw [if_pos (UInt8.toNat_lt _)] at q; simpa using q))
  have l1 := digV_le S[b + 2].toNat
  have l1b : digV S[b + 2].toNat < 16 := by rw [← hv2]; have := digV_le (byteAt (bl S) (b + 2)); omega
  have or1 : bits .or .i64 0 (digV S[b + 2].toNat : Int) = (digV S[b + 2].toNat : Int) := orD0 _ l1b
  have ek : ((b : Int) + 2 + 1).toNat = b + 3 := by omega
  have k0 : 0 ≤ (b : Int) + 2 + 1 := by omega
  have dm : decide ((b : Int) + 2 + 1 < (b : Int) + 4) = true := by simp; omega
  have hv3 := byteAt_ba h3
  have h2563 := UInt8.toNat_lt S[b + 3]
  have k1 : (b : Int) + 2 + 1 < S.size := by omega
  have dk : decide ((S.size : Int) ≤ (b : Int) + 2 + 1) = false := by simp; omega
  have H2 := Lib.hid (fun w' => idx_any ⟨#[48, 49, 50, 51, 52, 53, 54, 55, 56, 57, 97, 98, 99, 100, 101, 102]⟩ (S[b + 3].toNat : Int) (-1) w' (by have q := pk_hexes (byteAt (bl S) (b + 3)) (by have := byteAt_le (bl S) (b + 3); omega); rw [if_pos he, hv3] at q; unfold pk at q; rw [if_pos (UInt8.toNat_lt _)] at q; simpa using q))
  have HG := Lib.hid (show lescAt (bl S) (b + 1) = .inl (wrongAt (bl S) (b + 3)) by rw [lescAt, if_neg (by omega), if_neg (by omega), if_neg (by omega), if_neg (by omega), if_pos hc, hexAt, if_neg hd, lowAt, show b + 1 + 1 + 1 = b + 3 from rfl, if_pos he])
  clear hv hc hv2 hd hv3 he
  go_enter Tryz.func115, Tryz.ntmps115
  repeat (first | go_values | go_skip | go_guarded | go_step | go_upon)
  refine wp_loop_rounds 2 ?_
  rw [rounds_succ]
  repeat (first | go_values | go_skip | go_guarded | go_step | go_upon)
  refine (H1.out _).mono ?_
  rintro e w1 ⟨rfl, hb1⟩
  have u1 := CU.below HC.out hb1
  obtain ⟨d10, d11⟩ := u1.cells
  dsimp only
  repeat (first | go_values | go_skip | go_guarded | go_step | go_upon)
  refine (H1.out _).mono ?_
  rintro e w2 ⟨rfl, hb2⟩
  have u2 := CU.below u1 hb2
  obtain ⟨d20, d21⟩ := u2.cells
  dsimp only
  repeat (first | go_values | go_skip | go_guarded | go_step | go_upon)
  rw [rounds_succ]
  repeat (first | go_values | go_skip | go_guarded | go_step | go_upon)
  refine (H2.out _).mono ?_
  rintro e w3 ⟨rfl, hb3⟩
  have u3 := CU.below u2 hb3
  obtain ⟨d30, d31⟩ := u3.cells
  dsimp only
  repeat (first | go_values | go_skip | go_guarded | go_step | go_upon)
  refine (lwrong_any C S a l _ (b + 3) _ u3 (by omega) hs).mono ?_
  rintro e w9 ⟨⟨p, rfl, hp, hl⟩, hb9⟩
  dsimp only [id]
  repeat (first | go_values | go_skip | go_guarded | go_step | go_upon)
  go_ret3
  exact EscP.no HG.out rfl hp (Nat.le_trans (Nat.le_trans (Nat.le_trans hb1.size hb2.size) hb3.size) hl) (bstep (bstep (bstep hb1 hb2) hb3) hb9)
set_option maxRecDepth 100000 in
set_option maxHeartbeats 3200000 in
theorem esc_x5 (C : Nat) (S : ByteArray) (a : Nat) (l : List Tok) (b : Nat) (w : World) (h : CU C S a l w) (hs : S.size ≤ 140737488355328) (_ : b ≤ S.size) (h1 : b + 1 < S.size) (hc : byteAt (bl S) (b + 1) = 120) (h2 : b + 2 < S.size) (hd : digV (byteAt (bl S) (b + 2)) ≠ 16) (h3 : b + 3 < S.size) (he : digV (byteAt (bl S) (b + 3)) ≠ 16) :
    Calls Tryz.prog 115 #[.pointer (some ⟨C, 0, none⟩), .int .i64 (b : Int)] w (EscP w (lescAt (bl S) (b + 1))) := by
  have HC := Lib.hid h
  have hlt := h.lt
  obtain ⟨c0, c1⟩ := h.cells
  clear h
  have ei : ((b : Int) + 1).toNat = b + 1 := by omega
  have b0 : 0 ≤ (b : Int) + 1 := by omega
  have b1 : (b : Int) + 1 < S.size := by omega
  have d1 : decide ((S.size : Int) ≤ (b : Int) + 1) = false := by simp; omega
  have hv := byteAt_ba h1
  have h256 := UInt8.toNat_lt S[b + 1]
  have k110 : ((S[b + 1].toNat : Int) == 110) = false := by rw [← hv]; simp; omega
  have k114 : ((S[b + 1].toNat : Int) == 114) = false := by rw [← hv]; simp; omega
  have k116 : ((S[b + 1].toNat : Int) == 116) = false := by rw [← hv]; simp; omega
  have k92 : ((S[b + 1].toNat : Int) == 92) = false := by rw [← hv]; simp; omega
  have k34 : ((S[b + 1].toNat : Int) == 34) = false := by rw [← hv]; simp; omega
  have k39 : ((S[b + 1].toNat : Int) == 39) = false := by rw [← hv]; simp; omega
  have k120 : ((S[b + 1].toNat : Int) == 120) = true := by rw [← hv]; simp; omega
  have ej : ((b : Int) + 2).toNat = b + 2 := by omega
  have j0 : 0 ≤ (b : Int) + 2 := by omega
  have dl : decide ((b : Int) + 2 < (b : Int) + 4) = true := by simp
  have hv2 := byteAt_ba h2
  have h2562 := UInt8.toNat_lt S[b + 2]
  have j1 : (b : Int) + 2 < S.size := by omega
  have dj : decide ((S.size : Int) ≤ (b : Int) + 2) = false := by simp; omega
  have H1 := Lib.hid (fun w' => idx_any ⟨#[48, 49, 50, 51, 52, 53, 54, 55, 56, 57, 97, 98, 99, 100, 101, 102]⟩ (S[b + 2].toNat : Int) (digV S[b + 2].toNat : Int) w' (by have q := pk_hexes (byteAt (bl S) (b + 2)) (by have := byteAt_le (bl S) (b + 2); omega); rw [if_neg hd, hv2] at q; unfold pk at q; rw [if_pos (UInt8.toNat_lt _)] at q; simpa using q))
  have l1 := digV_le S[b + 2].toNat
  have l1b : digV S[b + 2].toNat < 16 := by rw [← hv2]; have := digV_le (byteAt (bl S) (b + 2)); omega
  have or1 : bits .or .i64 0 (digV S[b + 2].toNat : Int) = (digV S[b + 2].toNat : Int) := orD0 _ l1b
  have ek : ((b : Int) + 2 + 1).toNat = b + 3 := by omega
  have k0 : 0 ≤ (b : Int) + 2 + 1 := by omega
  have dm : decide ((b : Int) + 2 + 1 < (b : Int) + 4) = true := by simp; omega
  have hv3 := byteAt_ba h3
  have h2563 := UInt8.toNat_lt S[b + 3]
  have k1 : (b : Int) + 2 + 1 < S.size := by omega
  have dk : decide ((S.size : Int) ≤ (b : Int) + 2 + 1) = false := by simp; omega
  have H2 := Lib.hid (fun w' => idx_any ⟨#[48, 49, 50, 51, 52, 53, 54, 55, 56, 57, 97, 98, 99, 100, 101, 102]⟩ (S[b + 3].toNat : Int) (digV S[b + 3].toNat : Int) w' (by have q := pk_hexes (byteAt (bl S) (b + 3)) (by have := byteAt_le (bl S) (b + 3); omega); rw [if_neg he, hv3] at q; unfold pk at q; rw [if_pos (UInt8.toNat_lt _)] at q; simpa using q))
  have l2b : digV S[b + 3].toNat < 16 := by rw [← hv3]; have := digV_le (byteAt (bl S) (b + 3)); omega
  have or2 : bits .or .i64 ((digV S[b + 2].toNat : Int) * 16) (digV S[b + 3].toNat : Int) = ((16 * digV S[b + 2].toNat + digV S[b + 3].toNat : Nat) : Int) := orD _ _ l1b l2b
  have HG := Lib.hid (show lescAt (bl S) (b + 1) = .inr (16 * digV S[b + 2].toNat + digV S[b + 3].toNat, b + 4) by rw [lescAt, if_neg (by omega), if_neg (by omega), if_neg (by omega), if_neg (by omega), if_pos hc, hexAt, if_neg hd, lowAt, if_neg he, ← hv2, ← hv3])
  clear hv hc hv2 hd hv3 he
  go_enter Tryz.func115, Tryz.ntmps115
  repeat (first | go_values | go_skip | go_guarded | go_step | go_upon)
  refine wp_loop_rounds 3 ?_
  rw [rounds_succ]
  repeat (first | go_values | go_skip | go_guarded | go_step | go_upon)
  refine (H1.out _).mono ?_
  rintro e w1 ⟨rfl, hb1⟩
  have u1 := CU.below HC.out hb1
  obtain ⟨d10, d11⟩ := u1.cells
  dsimp only
  repeat (first | go_values | go_skip | go_guarded | go_step | go_upon)
  refine (H1.out _).mono ?_
  rintro e w2 ⟨rfl, hb2⟩
  have u2 := CU.below u1 hb2
  obtain ⟨d20, d21⟩ := u2.cells
  dsimp only
  repeat (first | go_values | go_skip | go_guarded | go_step | go_upon)
  rw [rounds_succ]
  repeat (first | go_values | go_skip | go_guarded | go_step | go_upon)
  refine (H2.out _).mono ?_
  rintro e w3 ⟨rfl, hb3⟩
  have u3 := CU.below u2 hb3
  obtain ⟨d30, d31⟩ := u3.cells
  dsimp only
  repeat (first | go_values | go_skip | go_guarded | go_step | go_upon)
  refine (H2.out _).mono ?_
  rintro e w4 ⟨rfl, hb4⟩
  have u4 := CU.below u3 hb4
  obtain ⟨d40, d41⟩ := u4.cells
  dsimp only
  repeat (first | go_values | go_skip | go_guarded | go_step | go_upon)
  rw [rounds_succ]
  repeat (first | go_values | go_skip | go_guarded | go_step | go_upon)
  go_ret3
  exact EscP.ok HG.out (by omega) (by omega) rfl (bstep (bstep (bstep hb1 hb2) hb3) hb4)
theorem escape_any (C : Nat) (S : ByteArray) (a : Nat) (l : List Tok) (b : Nat) (w : World) (h : CU C S a l w) (hs : S.size ≤ 140737488355328) (hb : b ≤ S.size) :
    Calls Tryz.prog 115 #[.pointer (some ⟨C, 0, none⟩), .int .i64 (b : Int)] w (EscP w (lescAt (bl S) (b + 1))) := by
  rcases Nat.lt_or_ge (b + 1) S.size with h1 | h1
  · by_cases n1 : byteAt (bl S) (b + 1) = 110
    · exact esc_n C S a l b w h hs hb h1 n1
    by_cases n2 : byteAt (bl S) (b + 1) = 114
    · exact esc_r C S a l b w h hs hb h1 n2
    by_cases n3 : byteAt (bl S) (b + 1) = 116
    · exact esc_t C S a l b w h hs hb h1 n3
    by_cases n4 : byteAt (bl S) (b + 1) = 92
    · exact esc_bs C S a l b w h hs hb h1 n4
    by_cases n5 : byteAt (bl S) (b + 1) = 34
    · exact esc_dq C S a l b w h hs hb h1 n5
    by_cases n6 : byteAt (bl S) (b + 1) = 39
    · exact esc_sq C S a l b w h hs hb h1 n6
    by_cases n7 : byteAt (bl S) (b + 1) = 120
    · rcases Nat.lt_or_ge (b + 2) S.size with h2 | h2
      · by_cases hd : digV (byteAt (bl S) (b + 2)) = 16
        · exact esc_x2 C S a l b w h hs hb h1 n7 h2 hd
        rcases Nat.lt_or_ge (b + 3) S.size with h3 | h3
        · by_cases he : digV (byteAt (bl S) (b + 3)) = 16
          · exact esc_x4 C S a l b w h hs hb h1 n7 h2 hd h3 he
          · exact esc_x5 C S a l b w h hs hb h1 n7 h2 hd h3 he
        · exact esc_x3 C S a l b w h hs hb h1 n7 h2 hd h3
      · exact esc_x1 C S a l b w h hs hb h1 n7 h2
    · exact esc_no C S a l b w h hs hb h1 n1 n2 n3 (by omega) n7
  · exact esc_end C S a l b w h hs hb h1
theorem escape_ok (C : Nat) (S : ByteArray) (a : Nat) (l : List Tok) (b : Nat) (w : World) (h : CU C S a l w) (hs : S.size ≤ 140737488355328) (hb : b ≤ S.size) {c n : Nat} (hg : lescAt (bl S) (b + 1) = .inr (c, n)) :
    Calls Tryz.prog 115 #[.pointer (some ⟨C, 0, none⟩), .int .i64 (b : Int)] w (Ans (.tuple #[.int .u8 (c : Int), .int .i64 (n : Int), .nilIface]) w) := by
  have := escape_any C S a l b w h hs hb
  rw [hg] at this
  exact this
theorem escape_no (C : Nat) (S : ByteArray) (a : Nat) (l : List Tok) (b : Nat) (w : World) (h : CU C S a l w) (hs : S.size ≤ 140737488355328) (hb : b ≤ S.size) {er : Nat × Nat} (hg : lescAt (bl S) (b + 1) = .inl er) :
    Calls Tryz.prog 115 #[.pointer (some ⟨C, 0, none⟩), .int .i64 (b : Int)] w (fun e w' => AnsFault er w (fun v => .tuple #[.int .u8 0, .int .i64 0, v]) e w' ∧ Below w.heap.size w w') := by
  have := escape_any C S a l b w h hs hb
  rw [hg] at this
  exact this
end Go.Proofs.YtjlcoldnhbkcgaaGreatDoor
