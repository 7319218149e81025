/- The walk of MembufCas, as the frame takes it. -/
import Derived.Test.YtkbjbpaeoopkfaaBj
namespace Go.Proofs.Ytkbjbpaeoopkfaa
open Go.RowKit
theorem u64_bd {a : Int} (h : (Lit.int .u64 a).wf = true) : 0 ≤ a ∧ a ≤ 18446744073709551615 := by
  simpa [Lit.wf, IntKind.min, IntKind.max, IntKind.signed, IntKind.bits] using h
theorem u8_bd' {a : Int} (h : (Lit.int .u8 a).wf = true) : 0 ≤ a ∧ a ≤ 255 := by
  simpa [Lit.wf, IntKind.min, IntKind.max, IntKind.signed, IntKind.bits] using h
theorem membufCas_said (v : Int) (wv : (Lit.int .u64 v).wf = true) (x : Int) (wx : (Lit.int .u64 x).wf = true) (y : Int) (wy : (Lit.int .u64 y).wf = true) (a : Int) (wa : (Lit.int .u8 a).wf = true) (half : Bool) (w : World) :
    Calls Try.prog 8 #[.int .u64 v, .int .u64 x, .int .u64 y, .int .u8 a, .bool half] w fun e w' => e = .returned (.bool true) ∧ Below w.heap.size w w' := by
  have bv := u64_bd wv
  have bx := u64_bd wx
  have b_y := u64_bd wy
  have ba := u8_bd' wa
  cases half
  · by_cases h : x = v
    · exact cas_whole_same v x y a w bv.1 bv.2 bx.1 bx.2 b_y.1 b_y.2 ba.1 ba.2 h
    · exact cas_whole_other v x y a w bv.1 bv.2 bx.1 bx.2 b_y.1 b_y.2 ba.1 ba.2 h
  · by_cases h : x % 4294967296 = v % 4294967296
    · exact cas_half_same v x y a w bv.1 bv.2 bx.1 bx.2 b_y.1 b_y.2 ba.1 ba.2 h
    · exact cas_half_other v x y a w bv.1 bv.2 bx.1 bx.2 b_y.1 b_y.2 ba.1 ba.2 h
end Go.Proofs.Ytkbjbpaeoopkfaa
