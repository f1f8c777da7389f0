/- The walk of ClassWithin, at a byte. -/
import Derived.Test.YtfnbdpigpeonmaaWithinW
import Derived.OpenShut
namespace Go.Proofs.Ytfnbdpigpeonmaa
open Go.RowKit
theorem within_call (c d : BitVec 256) (x : Int) (w : World) (hx : (Lit.int .u8 x).wf = true) : Calls Try.prog 3 #[.agg #[.int .u64 (wd c 0), .int .u64 (wd c 1), .int .u64 (wd c 2), .int .u64 (wd c 3)], .agg #[.int .u64 (wd d 0), .int .u64 (wd d 1), .int .u64 (wd d 2), .int .u64 (wd d 3)], .int .u8 x] w (Ans (.bool true) w) := by
  have := bounds_u8 hx
  exact within_any c d x w (by omega) (by omega)
end Go.Proofs.Ytfnbdpigpeonmaa
