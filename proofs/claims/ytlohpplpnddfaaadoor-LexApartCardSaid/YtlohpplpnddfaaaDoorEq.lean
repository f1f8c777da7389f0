/- Two classes compared; two pairs of ints compared. -/
import Derived.Test.YtlohpplpnddfaaaDoorProg
import Derived.Test.YtlohpplpnddfaaaDoorCls
import Derived.WalkKit
namespace Go.Proofs.YtlohpplpnddfaaaDoor
open Go.RowKit
theorem guard_cl : Tryd.prog.eqGuardType Tryd.prog.depth 24 = false := by kernel_rfl
theorem size_word (w : World) : (sizeOf 22).run Tryd.prog w = .ok 1 w := by kernel_rfl
theorem equal_cl4 (w : World) (a0 a1 a2 a3 b0 b1 b2 b3 : Int) :
    (Op.equalIn 10000 24 (.agg #[.int .u64 a0, .int .u64 a1, .int .u64 a2, .int .u64 a3]) (.agg #[.int .u64 b0, .int .u64 b1, .int .u64 b2, .int .u64 b3])).run Tryd.prog w = .ok (a0 == b0 && (a1 == b1 && (a2 == b2 && a3 == b3))) w := by
  have e := fun (x y : Int) (w : World) => run_equalIn_int (P := Tryd.prog) w 9998 22 .u64 .u64 x y Tryd.underlying22
  rw [show 10000 = 9999 + 1 from rfl]
  unfold Op.equalIn
  simp only [Sem.run_bind, run_underlying Tryd.underlying24, Result.andThen_ok, size_word]
  simp [List.range', part, Sem.run_bind, e]
  by_cases h0 : a0 = b0 <;> by_cases h1 : a1 = b1 <;> by_cases h2 : a2 = b2 <;> by_cases h3 : a3 = b3 <;> simp [h0, h1, h2, h3]
theorem equal_cl (w : World) (c d : BitVec 256) : (Op.equalIn 10000 24 (.agg #[.int .u64 (wd c 0), .int .u64 (wd c 1), .int .u64 (wd c 2), .int .u64 (wd c 3)]) (.agg #[.int .u64 (wd d 0), .int .u64 (wd d 1), .int .u64 (wd d 2), .int .u64 (wd d 3)])).run Tryd.prog w = .ok (c == d) w := by
  rw [equal_cl4, eq_wd]
theorem equal_pair (w : World) (a0 a1 b0 b1 : Int) :
    (Op.equalIn 10000 101 (.agg #[.int .i64 a0, .int .i64 a1]) (.agg #[.int .i64 b0, .int .i64 b1])).run Tryd.prog w = .ok (a0 == b0 && a1 == b1) w := by
  have e := fun (x y : Int) (w : World) => run_equalIn_int (P := Tryd.prog) w 9998 3 .i64 .i64 x y Tryd.underlying3
  have sz : ∀ w, (sizeOf 3).run Tryd.prog w = .ok 1 w := fun _ => by kernel_rfl
  rw [show 10000 = 9999 + 1 from rfl]
  unfold Op.equalIn
  simp only [Sem.run_bind, run_underlying Tryd.underlying101, Result.andThen_ok, sz]
  simp [List.range', part, Sem.run_bind, e]
  by_cases h0 : a0 = b0 <;> by_cases h1 : a1 = b1 <;> simp [h0, h1]
theorem guard_pair : Tryd.prog.eqGuardType Tryd.prog.depth 101 = false := by kernel_rfl
end Go.Proofs.YtlohpplpnddfaaaDoor
