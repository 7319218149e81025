/- The walk of CommandAnswers, as the frame takes it. -/
import Derived.Test.YtkbjbpaeoopkfaaCu
import Derived.Test.YtkbjbpaeoopkfaaOc
namespace Go.Proofs.Ytkbjbpaeoopkfaa
open Go.RowKit
theorem i64_bd {a : Int} (h : (Lit.int .i64 a).wf = true) : -9223372036854775808 ≤ a ∧ a ≤ 9223372036854775807 := by
  simpa [Lit.wf, IntKind.min, IntKind.max, IntKind.signed, IntKind.bits] using h
theorem i32_bd {a : Int} (h : (Lit.int .i32 a).wf = true) : -2147483648 ≤ a ∧ a ≤ 2147483647 := by
  simpa [Lit.wf, IntKind.min, IntKind.max, IntKind.signed, IntKind.bits] using h
theorem answers_said (k st se er co cl : Int) (_ : (Lit.int .i32 k).wf = true) (_ : (Lit.int .i32 st).wf = true) (_ : (Lit.int .i32 se).wf = true) (_ : (Lit.int .i32 er).wf = true) (_ : (Lit.int .i64 co).wf = true) (_ : (Lit.int .i64 cl).wf = true)
    (e : Int) (he : (Lit.int .i64 e).wf = true) (k2 st2 se2 er2 co2 cl2 : Int) (_ : (Lit.int .i32 k2).wf = true) (_ : (Lit.int .i32 st2).wf = true) (_ : (Lit.int .i32 se2).wf = true) (_ : (Lit.int .i32 er2).wf = true) (_ : (Lit.int .i64 co2).wf = true) (_ : (Lit.int .i64 cl2).wf = true) (w : World) :
    Calls Try.prog 4 #[.agg #[.int .i32 k, .int .i32 st, .int .i32 se, .int .i32 er, .int .i64 co, .int .i64 cl], .int .i64 e, .agg #[.int .i32 k2, .int .i32 st2, .int .i32 se2, .int .i32 er2, .int .i64 co2, .int .i64 cl2]] w fun r w' => r = .returned (.bool true) ∧ Below w.heap.size w w' :=
  answers_walk k st se er co cl e k2 st2 se2 er2 co2 cl2 (i64_bd he).1 (i64_bd he).2 w
end Go.Proofs.Ytkbjbpaeoopkfaa
