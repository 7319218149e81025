/- ref02.SameAccess: of two accesses that are the same. Conditions: as it says. -/
import Derived.Test.YthaglmlkillhdaaKc
namespace Go.Proofs.Ythaglmlkillhdaa
set_option maxRecDepth 100000
open Go.RowKit
set_option linter.unusedVariables false
set_option linter.unusedSimpArgs false
set_option maxHeartbeats 2000000 in
theorem sameAcc_true (k a n v x : Int) (s0 t0 : Option Addr) (sl sc tl tc : Nat) (l : List Int) (w : World) (h1 : RdB w (.slice s0 sl sc) l) (h2 : RdB w (.slice t0 tl tc) l) :
    Calls Try.prog 16 #[.agg #[.int .i64 k, .int .i64 a, .int .i64 n, .int .u64 v, .int .u64 x, .slice s0 sl sc], .agg #[.int .i64 k, .int .i64 a, .int .i64 n, .int .u64 v, .int .u64 x, .slice t0 tl tc]] w fun e w' => e = .returned (.bool true) ∧ Below w.heap.size w w' := by
  have r1 := (h1.below ((Below.refl _ w).alloc (Nat.le_refl _) (Obj.cells #[Value.int IntKind.i64 k, Value.int IntKind.i64 a, Value.int IntKind.i64 n, Value.int IntKind.u64 v, Value.int IntKind.u64 x, Value.slice s0 sl sc] 30))).below ((Below.refl _ _).alloc (Nat.le_refl _) (Obj.cells #[Value.int IntKind.i64 k, Value.int IntKind.i64 a, Value.int IntKind.i64 n, Value.int IntKind.u64 v, Value.int IntKind.u64 x, Value.slice t0 tl tc] 30))
  have r2 := (h2.below ((Below.refl _ w).alloc (Nat.le_refl _) (Obj.cells #[Value.int IntKind.i64 k, Value.int IntKind.i64 a, Value.int IntKind.i64 n, Value.int IntKind.u64 v, Value.int IntKind.u64 x, Value.slice s0 sl sc] 30))).below ((Below.refl _ _).alloc (Nat.le_refl _) (Obj.cells #[Value.int IntKind.i64 k, Value.int IntKind.i64 a, Value.int IntKind.i64 n, Value.int IntKind.u64 v, Value.int IntKind.u64 x, Value.slice t0 tl tc] 30))
  have V1 := conv_rd 22 9 Try.underlying22 Try.underlying9 r1
  have V2 := conv_rd 22 9 Try.underlying22 Try.underlying9 r2
  clear h1 h2 r1 r2
  go_enter Try.func16, Try.ntmps16
  go_wp2
  go_ret
  exact ⟨rfl, by go_grown⟩
end Go.Proofs.Ythaglmlkillhdaa
