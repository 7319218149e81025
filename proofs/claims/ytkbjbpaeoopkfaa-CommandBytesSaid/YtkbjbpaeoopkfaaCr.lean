/- Contracts of the reference's Answer and of command.IsAnswer. -/
import Derived.Test.YtkbjbpaeoopkfaaCa
namespace Go.Proofs.Ytkbjbpaeoopkfaa
set_option maxRecDepth 100000
open Go.RowKit
set_option linter.unusedVariables false
set_option maxHeartbeats 4000000 in
theorem refAnswer_any (k st se er co cl e : Int) (h0 : -9223372036854775808 ≤ e) (h1 : e ≤ 9223372036854775807) (w : World) :
    Calls Try.prog 18 #[.agg #[.int .i32 k, .int .i32 st, .int .i32 se, .int .i32 er, .int .i64 co, .int .i64 cl], .int .i64 e] w fun r w' => r = .returned (.agg #[.int .i32 (anK e), .int .i32 st, .int .i32 se, .int .i32 (anE e), .int .i64 co, .int .i64 cl]) ∧ Below w.heap.size w w' := by
  by_cases c0 : e = 0
  · subst c0
    go_enter Try.func18, Try.ntmps18
    go_wp2
    (try simp only [Exit.inBlock, Exit.then])
    refine bodyPost_ret ?_ rfl ⟨rfl, by go_grown⟩
    rw [results_cell1 rfl]
    go_simp
    exact ⟨rfl, rfl⟩
  have HK := Lib.hid (show anK e = 6 by unfold anK; rw [if_neg c0])
  by_cases c1 : 0 < e ∧ e ≤ 255
  · have HE := Lib.hid (show anE e = e by unfold anE; rw [if_neg c0, if_pos c1])
    obtain ⟨d1, d2⟩ := c1
    have d3 : ¬ e < 0 := by omega
    have d4 : ¬ 255 < e := by omega
    go_enter Try.func18, Try.ntmps18
    go_wp2
    all_goals
      (try simp only [Exit.inBlock, Exit.then])
      refine bodyPost_ret ?_ rfl ⟨by rw [HK.out, HE.out], by go_grown⟩
      rw [results_cell1 rfl]
      try go_simp
  have HE := Lib.hid (show anE e = 255 by unfold anE; rw [if_neg c0, if_neg c1])
  by_cases c2 : e < 0
  · clear c1
    go_enter Try.func18, Try.ntmps18
    go_wp2
    all_goals
      (try simp only [Exit.inBlock, Exit.then])
      refine bodyPost_ret ?_ rfl ⟨by rw [HK.out, HE.out], by go_grown⟩
      rw [results_cell1 rfl]
      try go_simp
  · have c3 : 255 < e := by omega
    clear c1
    go_enter Try.func18, Try.ntmps18
    go_wp2
    all_goals
      (try simp only [Exit.inBlock, Exit.then])
      refine bodyPost_ret ?_ rfl ⟨by rw [HK.out, HE.out], by go_grown⟩
      rw [results_cell1 rfl]
      try go_simp
set_option maxHeartbeats 4000000 in
theorem coIs_any (k st se er co cl k2 st2 se2 er2 co2 cl2 : Int) (w : World) :
    Calls Try.prog 19 #[.agg #[.int .i32 k, .int .i32 st, .int .i32 se, .int .i32 er, .int .i64 co, .int .i64 cl], .agg #[.int .i32 k2, .int .i32 st2, .int .i32 se2, .int .i32 er2, .int .i64 co2, .int .i64 cl2]] w fun r w' => r = .returned (.bool ((k == 5 || k == 6) && co == co2 && cl == cl2)) ∧ Below w.heap.size w w' := by
  go_enter Try.func19, Try.ntmps19
  go_wp2
  all_goals
    go_ret
    exact ⟨congrArg Ending.returned (congrArg Value.bool (by simp [*])), by go_grown⟩
end Go.Proofs.Ytkbjbpaeoopkfaa
