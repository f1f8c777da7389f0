/- The walk of the document's Has. -/
import Derived.Test.YtlohpplpnddfaaaDoorClsV
namespace Go.Proofs.YtlohpplpnddfaaaDoor
open Go.RowKit Go.Sort

theorem has_eq1 (c : BitVec 256) (x : Int) (h0 : 0 ≤ x) (h1 : x < 256) : (bits .and .u64 (wd c (x / 64).toNat / 2 ^ (x % 64).toNat) 1 == 1) = Has c x.toNat := by
  have h := has_wd c x h0 h1
  rw [← h]
  have e : bits .and .u64 (wd c (x / 64).toNat / 2 ^ (x % 64).toNat) 1 = 0 ∨ bits .and .u64 (wd c (x / 64).toNat / 2 ^ (x % 64).toNat) 1 = 1 := by
    have hn : 0 ≤ wd c (x / 64).toNat / 2 ^ (x % 64).toNat := Int.ediv_nonneg (wd_nonneg _ _) (by exact_mod_cast Nat.zero_le _)
    have hl : wd c (x / 64).toNat / 2 ^ (x % 64).toNat ≤ wd c (x / 64).toNat := Int.ediv_le_self _ (wd_nonneg _ _)
    have hlt := wd_lt c (x / 64).toNat
    rw [and_one_u64 _ hn (by omega)]
    omega
  rcases e with e | e <;> rw [e] <;> rfl
set_option maxHeartbeats 800000 in
theorem rhas_any (c : BitVec 256) (x : Int) (w : World) (h0 : 0 ≤ x) (h1 : x < 256) :
    Calls Tryd.prog 26 #[.agg #[.int .u64 (wd c 0), .int .u64 (wd c 1), .int .u64 (wd c 2), .int .u64 (wd c 3)], .int .i64 x] w (Ans (.bool (Has c x.toNat)) w) := by
  have hi := cl_get c (x/64).toNat (by omega)
  have HH := Lib.hid (has_eq1 c x h0 h1)
  go_enter Tryd.func26, Tryd.ntmps26
  repeat (first | go_values | go_skip | go_guarded | go_step | go_upon)
  go_ret
  exact ⟨ret_bool HH.out, (by repeat (first | exact Below.refl _ _ | assumption | refine bal ?_ _ | refine bdr ?_ | refine bdrn ?_ _ | (refine bset ?_ (by first | exact Nat.le_refl _ | (simp; done) | (simp; omega) | omega) _) | refine bstep ?_ (by assumption)))⟩
theorem rhas_nat (c : BitVec 256) (k : Nat) (w : World) (h1 : k < 256) : Calls Tryd.prog 26 #[.agg #[.int .u64 (wd c 0), .int .u64 (wd c 1), .int .u64 (wd c 2), .int .u64 (wd c 3)], .int .i64 k] w (Ans (.bool (Has c k)) w) := rhas_any c k w (by omega) (by omega)
theorem rhas_b (c : BitVec 256) (k : Nat) (b : Bool) (w : World) (h1 : k < 256) (hb : Has c k = b) : Calls Tryd.prog 26 #[.agg #[.int .u64 (wd c 0), .int .u64 (wd c 1), .int .u64 (wd c 2), .int .u64 (wd c 3)], .int .i64 k] w (Ans (.bool b) w) := by rw [← hb]; exact rhas_nat c k w h1
end Go.Proofs.YtlohpplpnddfaaaDoor
