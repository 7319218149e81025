/- Contracts of sync/atomic's methods, in one goroutine. Conditions: the cell is there and not frozen. -/
import Derived.Test.YthaglmlkillhdaaRw
import Derived.Laws.LoneSync
namespace Go.Proofs.Ythaglmlkillhdaa
set_option maxRecDepth 100000
open Go.RowKit
set_option linter.unusedVariables false
set_option maxHeartbeats 400000 in
theorem load64_any (c i : Nat) (x : Int) (w : World) (h : w.cell? ⟨c, i, none⟩ = some (.int .u64 x)) :
    Calls Try.prog 70 #[.pointer (some ⟨c, i, none⟩)] w fun e w' => e = .returned (.int .u64 x) ∧ w = w' := by
  have hl := run_call_load (P := Try.prog) Try.func100 (by kernel_rfl) (by kernel_rfl) (by kernel_rfl) .u64 (by kernel_rfl) h
  go_enter Try.func70, Try.ntmps70
  go_wp2
  go_ret
  exact ⟨rfl, rfl⟩
set_option maxHeartbeats 400000 in
theorem loadI64_any (c i : Nat) (x : Int) (w : World) (h : w.cell? ⟨c, i, none⟩ = some (.int .i64 x)) :
    Calls Try.prog 68 #[.pointer (some ⟨c, i, none⟩)] w fun e w' => e = .returned (.int .i64 x) ∧ w = w' := by
  have hl := run_call_load (P := Try.prog) Try.func99 (by kernel_rfl) (by kernel_rfl) (by kernel_rfl) .i64 (by kernel_rfl) h
  go_enter Try.func68, Try.ntmps68
  go_wp2
  go_ret
  exact ⟨rfl, rfl⟩
set_option maxHeartbeats 400000 in
theorem cas64_any (c i : Nat) (old new : Int) (w : World) (h : w.cell? ⟨c, i, none⟩ = some (.int .u64 old)) (hf : w.frozen? ⟨c, i, none⟩ = false) :
    Calls Try.prog 126 #[.pointer (some ⟨c, i, none⟩), .int .u64 old, .int .u64 new] w fun e w' => e = .returned (.bool true) ∧ w.setCell ⟨c, i, none⟩ (.int .u64 new) = w' := by
  have hl := run_call_cas_hit (P := Try.prog) Try.func137 (by kernel_rfl) (by kernel_rfl) (by kernel_rfl) .u64 (by kernel_rfl) (y := new) h hf
  go_enter Try.func126, Try.ntmps126
  go_wp2
  go_ret
  exact ⟨rfl, rfl⟩
theorem add_run {P : Program} {k : IntKind} (x d : Int) (w : World) : (Op.intArith .add k x d).run P w = .ok (.int k (k.wrap (x + d))) w := rfl
set_option maxHeartbeats 400000 in
theorem add64_any (c i : Nat) (x d : Int) (w : World) (h : w.cell? ⟨c, i, none⟩ = some (.int .u64 x)) (hf : w.frozen? ⟨c, i, none⟩ = false) :
    Calls Try.prog 66 #[.pointer (some ⟨c, i, none⟩), .int .u64 d] w fun e w' => e = .returned (.int .u64 (IntKind.u64.wrap (x + d))) ∧ w.setCell ⟨c, i, none⟩ (.int .u64 (IntKind.u64.wrap (x + d))) = w' := by
  obtain ⟨s, hs⟩ : ∃ s, s = IntKind.u64.wrap (x + d) := ⟨_, rfl⟩
  have hl := run_call_add (P := Try.prog) Try.func98 (by kernel_rfl) (by kernel_rfl) (by kernel_rfl) .u64 (by kernel_rfl) h hf (add_run x d w)
  rw [← hs] at hl ⊢
  clear hs
  go_enter Try.func66, Try.ntmps66
  go_wp2
  go_ret
  exact ⟨rfl, rfl⟩
set_option maxHeartbeats 400000 in
theorem addI64_any (c i : Nat) (x d : Int) (w : World) (h : w.cell? ⟨c, i, none⟩ = some (.int .i64 x)) (hf : w.frozen? ⟨c, i, none⟩ = false) :
    Calls Try.prog 61 #[.pointer (some ⟨c, i, none⟩), .int .i64 d] w fun e w' => e = .returned (.int .i64 (IntKind.i64.wrap (x + d))) ∧ w.setCell ⟨c, i, none⟩ (.int .i64 (IntKind.i64.wrap (x + d))) = w' := by
  obtain ⟨s, hs⟩ : ∃ s, s = IntKind.i64.wrap (x + d) := ⟨_, rfl⟩
  have hl := run_call_add (P := Try.prog) Try.func96 (by kernel_rfl) (by kernel_rfl) (by kernel_rfl) .i64 (by kernel_rfl) h hf (add_run x d w)
  rw [← hs] at hl ⊢
  clear hs
  go_enter Try.func61, Try.ntmps61
  go_wp2
  go_ret
  exact ⟨rfl, rfl⟩
end Go.Proofs.Ythaglmlkillhdaa
