/- Contract of the reference's Right. -/
import Derived.Test.YtkbjbpaeoopkfaaCr
namespace Go.Proofs.Ytkbjbpaeoopkfaa
set_option maxRecDepth 100000
open Go.RowKit
set_option linter.unusedVariables false
set_option maxHeartbeats 4000000 in
theorem refRight_any (k st se er co cl : Int) (w : World) :
    Calls Try.prog 20 #[.agg #[.int .i32 k, .int .i32 st, .int .i32 se, .int .i32 er, .int .i64 co, .int .i64 cl]] w fun r w' => r = .returned (.bool (coOk k st se er co cl)) ∧ Below w.heap.size w w' := by
  by_cases c1 : k < 1
  · have HV := Lib.hid (show coOk k st se er co cl = false by unfold coOk; simp [show ¬ 1 ≤ k by omega])
    go_enter Try.func20, Try.ntmps20
    go_wp2
    go_ret
    exact ⟨by rw [HV.out]; rfl, by go_grown⟩
  by_cases c2 : 6 < k
  · have HV := Lib.hid (show coOk k st se er co cl = false by unfold coOk; simp [show ¬ k ≤ 6 by omega])
    go_enter Try.func20, Try.ntmps20
    go_wp2
    go_ret
    exact ⟨by rw [HV.out]; rfl, by go_grown⟩
  by_cases c3 : co < 0
  · have HV := Lib.hid (show coOk k st se er co cl = false by unfold coOk; simp [show ¬ 0 ≤ co by omega])
    go_enter Try.func20, Try.ntmps20
    go_wp2
    go_ret
    exact ⟨by rw [HV.out]; rfl, by go_grown⟩
  by_cases c4 : cl < 1
  · have HV := Lib.hid (show coOk k st se er co cl = false by unfold coOk; simp [show ¬ 1 ≤ cl by omega])
    go_enter Try.func20, Try.ntmps20
    go_wp2
    go_ret
    exact ⟨by rw [HV.out]; rfl, by go_grown⟩
  by_cases c5 : k = 6
  · subst c5
    have HV := Lib.hid (show coOk 6 st se er co cl = (decide (1 ≤ er) && decide (er ≤ 255)) by unfold coOk; simp; omega)
    go_enter Try.func20, Try.ntmps20
    go_wp2
    all_goals
      go_ret
      exact ⟨congrArg Ending.returned (congrArg Value.bool (by rw [HV.out]; simp [*] <;> omega)), by go_grown⟩
  have d5 : (k == 6) = false := by simpa using c5
  by_cases c6 : k = 4
  · subst c6
    by_cases c8 : st = 0 ∧ se = 0 ∧ co = 0
    · obtain ⟨rfl, rfl, rfl⟩ := c8
      have HV := Lib.hid (show coOk 4 0 0 er 0 cl = (er == 0) by by_cases he : er = 0 <;> simp [coOk, he, show 1 ≤ cl by omega])
      go_enter Try.func20, Try.ntmps20
      go_wp2
      go_ret
      exact ⟨by rw [HV.out]; rfl, by go_grown⟩
    · have HV := Lib.hid (show coOk 4 st se er co cl = false by
        unfold coOk
        simp
        intros
        omega)
      have C8 := Lib.hid c8
      clear c8
      go_enter Try.func20, Try.ntmps20
      go_wp2
      all_goals
        go_ret
        subst_vars
        first
          | exact (C8.out ⟨rfl, rfl, rfl⟩).elim
          | (exfalso; rename_i hz; exact C8.out ⟨rfl, rfl, by simpa using hz⟩)
          | exact ⟨by rw [HV.out]; rfl, by go_grown⟩
  have d6 : (k == 4) = false := by simpa using c6
  have HV := Lib.hid (show coOk k st se er co cl = (er == 0) by by_cases he : er = 0 <;> simp [coOk, he, c5, c6, show 1 ≤ k by omega, show k ≤ 6 by omega, show 0 ≤ co by omega, show 1 ≤ cl by omega])
  clear c5 c6
  go_enter Try.func20, Try.ntmps20
  go_wp2
  go_ret
  exact ⟨by rw [HV.out]; rfl, by go_grown⟩
end Go.Proofs.Ytkbjbpaeoopkfaa
