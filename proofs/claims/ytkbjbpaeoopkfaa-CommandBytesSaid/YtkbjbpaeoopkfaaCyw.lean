/- The walk of CommandBytes, as the frame takes it. -/
import Derived.Test.YtkbjbpaeoopkfaaCy
import Derived.Test.YtkbjbpaeoopkfaaOc
namespace Go.Proofs.Ytkbjbpaeoopkfaa
open Go.RowKit
theorem c64_bd {a : Int} (h : (Lit.int .i64 a).wf = true) : -9223372036854775808 ≤ a ∧ a ≤ 9223372036854775807 := by
  simpa [Lit.wf, IntKind.min, IntKind.max, IntKind.signed, IntKind.bits] using h
theorem c32_bd {a : Int} (h : (Lit.int .i32 a).wf = true) : -2147483648 ≤ a ∧ a ≤ 2147483647 := by
  simpa [Lit.wf, IntKind.min, IntKind.max, IntKind.signed, IntKind.bits] using h
theorem bytes_said (k st se er co cl : Int) (w1 : (Lit.int .i32 k).wf = true) (w2 : (Lit.int .i32 st).wf = true) (w3 : (Lit.int .i32 se).wf = true) (w4 : (Lit.int .i32 er).wf = true) (w5 : (Lit.int .i64 co).wf = true) (w6 : (Lit.int .i64 cl).wf = true) (w : World) :
    Calls Try.prog 5 #[.agg #[.int .i32 k, .int .i32 st, .int .i32 se, .int .i32 er, .int .i64 co, .int .i64 cl]] w fun r w' => r = .returned (.bool true) ∧ Below w.heap.size w w' :=
  bytes_walk k st se er co cl (c32_bd w1) (c32_bd w2) (c32_bd w3) (c32_bd w4) (c64_bd w5) (c64_bd w6) w
end Go.Proofs.Ytkbjbpaeoopkfaa
