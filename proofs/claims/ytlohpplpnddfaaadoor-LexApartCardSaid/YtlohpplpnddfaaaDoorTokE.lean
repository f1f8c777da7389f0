/- Two tokens compared: the same ones. -/
import Derived.Test.YtlohpplpnddfaaaDoorLexC
import Derived.Test.YtlohpplpnddfaaaDoorEq
import Derived.Laws.StructEq
namespace Go.Proofs.YtlohpplpnddfaaaDoor
open Go.RowKit Go.Sort

theorem guard_tok : Tryd.prog.eqGuardType Tryd.prog.depth 53 = false := by kernel_rfl
theorem equal_clD (w : World) (a0 a1 a2 a3 b0 b1 b2 b3 : Int) :
    (Op.equalIn 9999 24 (.agg #[.int .u64 a0, .int .u64 a1, .int .u64 a2, .int .u64 a3]) (.agg #[.int .u64 b0, .int .u64 b1, .int .u64 b2, .int .u64 b3])).run Tryd.prog w = .ok (a0 == b0 && (a1 == b1 && (a2 == b2 && a3 == b3))) w := by
  have e := fun (x y : Int) (w : World) => run_equalIn_int (P := Tryd.prog) w 9997 22 .u64 .u64 x y Tryd.underlying22
  rw [show 9999 = 9998 + 1 from rfl]
  unfold Op.equalIn
  simp only [Sem.run_bind, run_underlying Tryd.underlying24, Result.andThen_ok, size_word]
  simp [List.range', part, Sem.run_bind, e]
  by_cases h0 : a0 = b0 <;> by_cases h1 : a1 = b1 <;> by_cases h2 : a2 = b2 <;> by_cases h3 : a3 = b3 <;> simp [h0, h1, h2, h3]
theorem equal_tok (w : World) (a p : Int) (x : ByteArray) (c0 c1 c2 c3 : Int) : (Op.equalIn 10000 53 (.agg #[.int .i64 a, .string x, .int .u64 c0, .int .u64 c1, .int .u64 c2, .int .u64 c3, .int .i64 p]) (.agg #[.int .i64 a, .string x, .int .u64 c0, .int .u64 c1, .int .u64 c2, .int .u64 c3, .int .i64 p])).run Tryd.prog w = .ok true w := by
  have e1 := fun (x y : Int) (w : World) => run_equalIn_int (P := Tryd.prog) w 9998 3 .i64 .i64 x y Tryd.underlying3
  have e2 := fun (x y : ByteArray) (w : World) => run_equalIn_string (P := Tryd.prog) w 9998 9 x y Tryd.underlying9
  rw [show 10000 = 9998 + 1 + 1 from rfl, run_equalIn_struct (P := Tryd.prog) w _ 53 _ _ (by kernel_rfl) (by kernel_rfl)]
  simp only [Program.fieldsOf, Tryd.underlying53]
  simp only [Nat.reduceAdd] at e1 e2
  simp [Op.eqFields, part, Sem.run_bind, e1, e2, equal_clD]
end Go.Proofs.YtlohpplpnddfaaaDoor
