/- Contracts of command.Answer, IsAnswer and of the reference's Answer. -/
import Derived.Test.YtkbjbpaeoopkfaaCk
import Derived.Laws.DeepBits32
namespace Go.Proofs.Ytkbjbpaeoopkfaa
set_option maxRecDepth 100000
open Go.RowKit
set_option linter.unusedVariables false
/-- The kind and the error byte of an answer. -/
def anK (e : Int) : Int := if e = 0 then 5 else 6
def anE (e : Int) : Int := if e = 0 then 0 else if 0 < e ∧ e ≤ 255 then e else 255
/-- A command's fields as a value. -/
def coV (k st se er co cl : Int) : Value := .agg #[.int .i32 k, .int .i32 st, .int .i32 se, .int .i32 er, .int .i64 co, .int .i64 cl]
/-- A single result in a cell. -/
theorem results_cell1 {fn : Func} {p : Tmp} {ty : TypeId} (h : fn.results = #[.cell p ty]) (tmps : Array Value) (P : Program) (w : World) :
    (results fn tmps).run P w = ((asAddr (tmps.getD p undef)).run P w).andThen fun a w₁ => (loadVar ty a).run P w₁ := by
  simp only [results, h]
  simp [Sem.run_bind, Result.andThen]
set_option maxHeartbeats 4000000 in
theorem coAnswer_any (k st se er co cl e : Int) (w : World) :
    Calls Try.prog 17 #[.agg #[.int .i32 k, .int .i32 st, .int .i32 se, .int .i32 er, .int .i64 co, .int .i64 cl], .int .i64 e] w fun r w' => r = .returned (.agg #[.int .i32 (anK e), .int .i32 st, .int .i32 se, .int .i32 (anE e), .int .i64 co, .int .i64 cl]) ∧ Below w.heap.size w w' := by
  by_cases c0 : e = 0
  · subst c0
    go_enter Try.func17, Try.ntmps17
    go_wp2
    (try simp only [Exit.inBlock, Exit.then])
    refine bodyPost_ret ?_ rfl ⟨rfl, by go_grown⟩
    rw [results_cell1 rfl]
    go_simp
    exact ⟨rfl, rfl⟩
  by_cases c1 : 0 < e ∧ e ≤ 255
  · have HK := Lib.hid (show anK e = 6 by unfold anK; rw [if_neg c0])
    have HE := Lib.hid (show anE e = e by unfold anE; rw [if_neg c0, if_pos c1])
    obtain ⟨h1, h2⟩ := c1
    have HW : IntKind.i32.wrap e = e := wrap_i32_small e (by omega) (by omega)
    go_enter Try.func17, Try.ntmps17
    go_wp2
    (try simp only [Exit.inBlock, Exit.then])
    refine bodyPost_ret ?_ rfl ⟨by rw [HK.out, HE.out], by go_grown⟩
    rw [results_cell1 rfl]
    try go_simp
  · have HK := Lib.hid (show anK e = 6 by unfold anK; rw [if_neg c0])
    have HE := Lib.hid (show anE e = 255 by unfold anE; rw [if_neg c0, if_neg c1])
    have d1 : e < 0 ∨ 255 < e := by omega
    clear c1
    rcases d1 with d1 | d1
    · have d2 : ¬ 0 < e := by omega
      go_enter Try.func17, Try.ntmps17
      go_wp2
      (try simp only [Exit.inBlock, Exit.then])
      refine bodyPost_ret ?_ rfl ⟨by rw [HK.out, HE.out], by go_grown⟩
      rw [results_cell1 rfl]
      try go_simp
    · have d2 : 0 < e := by omega
      have d3 : ¬ e ≤ 255 := by omega
      go_enter Try.func17, Try.ntmps17
      go_wp2
      (try simp only [Exit.inBlock, Exit.then])
      refine bodyPost_ret ?_ rfl ⟨by rw [HK.out, HE.out], by go_grown⟩
      rw [results_cell1 rfl]
      try go_simp
end Go.Proofs.Ytkbjbpaeoopkfaa
