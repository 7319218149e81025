/- Contracts of command.Check, IsAnswer, Answer, and of the reference's Right and Answer. Conditions: the arguments are in their kinds' ranges. -/
import Derived.Test.YtkbjbpaeoopkfaaWb
import Derived.Deep.RegionHeld3
namespace Go.Proofs.Ytkbjbpaeoopkfaa
set_option maxRecDepth 100000
open Go.RowKit
set_option linter.unusedVariables false
/-- May a command be? -/
def coOk (k st se er co cl : Int) : Bool :=
  decide (1 ≤ k) && decide (k ≤ 6) && decide (0 ≤ co) && decide (1 ≤ cl) && (if k = 6 then decide (1 ≤ er) && decide (er ≤ 255) else decide (er = 0)) && (if k = 4 then decide (st = 0) && decide (se = 0) && decide (co = 0) else true)
def coE (k st se er co cl : Int) : Int := if coOk k st se er co cl = true then 0 else 8
theorem coE_no {k st se er co cl : Int} (h : coOk k st se er co cl = false) : coE k st se er co cl = 8 := by unfold coE; rw [h]; rfl
theorem coE_ok {k st se er co cl : Int} (h : coOk k st se er co cl = true) : coE k st se er co cl = 0 := by unfold coE; rw [if_pos h]
set_option maxHeartbeats 4000000 in
theorem coCheck_any (k st se er co cl : Int) (w : World) :
    Calls Try.prog 22 #[.agg #[.int .i32 k, .int .i32 st, .int .i32 se, .int .i32 er, .int .i64 co, .int .i64 cl]] w fun e w' => e = .returned (.int .i64 (coE k st se er co cl)) ∧ Below w.heap.size w w' := by
  by_cases c1 : k < 1
  · have HV := Lib.hid (coE_no (show coOk k st se er co cl = false by unfold coOk; simp [show ¬ 1 ≤ k by omega]))
    go_enter Try.func22, Try.ntmps22
    go_wp2
    go_ret
    exact ⟨ret_int (by rw [HV.out]), by go_grown⟩
  by_cases c2 : 6 < k
  · have HV := Lib.hid (coE_no (show coOk k st se er co cl = false by unfold coOk; simp [show ¬ k ≤ 6 by omega]))
    go_enter Try.func22, Try.ntmps22
    go_wp2
    go_ret
    exact ⟨ret_int (by rw [HV.out]), by go_grown⟩
  by_cases c3 : co < 0
  · have HV := Lib.hid (coE_no (show coOk k st se er co cl = false by unfold coOk; simp [show ¬ 0 ≤ co by omega]))
    go_enter Try.func22, Try.ntmps22
    go_wp2
    go_ret
    exact ⟨ret_int (by rw [HV.out]), by go_grown⟩
  by_cases c4 : cl < 1
  · have HV := Lib.hid (coE_no (show coOk k st se er co cl = false by unfold coOk; simp [show ¬ 1 ≤ cl by omega]))
    go_enter Try.func22, Try.ntmps22
    go_wp2
    go_ret
    exact ⟨ret_int (by rw [HV.out]), by go_grown⟩
  by_cases c5 : k = 6
  · subst c5
    by_cases c6 : er < 1
    · have HV := Lib.hid (coE_no (show coOk 6 st se er co cl = false by unfold coOk; simp [show ¬ 1 ≤ er by omega]))
      go_enter Try.func22, Try.ntmps22
      go_wp2
      go_ret
      exact ⟨ret_int (by rw [HV.out]), by go_grown⟩
    by_cases c7 : 255 < er
    · have HV := Lib.hid (coE_no (show coOk 6 st se er co cl = false by unfold coOk; simp [show ¬ er ≤ 255 by omega]))
      go_enter Try.func22, Try.ntmps22
      go_wp2
      go_ret
      exact ⟨ret_int (by rw [HV.out]), by go_grown⟩
    have HV := Lib.hid (coE_ok (show coOk 6 st se er co cl = true by unfold coOk; simp; omega))
    go_enter Try.func22, Try.ntmps22
    go_wp2
    go_ret
    exact ⟨ret_int (by rw [HV.out]), by go_grown⟩
  have d5 : (k == 6) = false := by simpa using c5
  have d5' : (k != 6) = true := by simpa using c5
  by_cases c6 : er = 0
  rotate_left
  · have HV := Lib.hid (coE_no (show coOk k st se er co cl = false by unfold coOk; simp [c5, c6]))
    have d6 : (er != 0) = true := by simpa using c6
    clear c5 c6
    go_enter Try.func22, Try.ntmps22
    go_wp2
    go_ret
    exact ⟨ret_int (by rw [HV.out]), by go_grown⟩
  subst c6
  by_cases c7 : k = 4
  · subst c7
    by_cases c8 : st = 0 ∧ se = 0 ∧ co = 0
    · obtain ⟨rfl, rfl, rfl⟩ := c8
      have HV := Lib.hid (coE_ok (show coOk 4 0 0 0 0 cl = true by unfold coOk; simp; omega))
      go_enter Try.func22, Try.ntmps22
      go_wp2
      go_ret
      exact ⟨ret_int (by rw [HV.out]), by go_grown⟩
    · have HV := Lib.hid (coE_no (show coOk 4 st se 0 co cl = false by
        unfold coOk
        simp
        intros
        omega))
      have C8 := Lib.hid c8
      clear c8
      go_enter Try.func22, Try.ntmps22
      go_wp2
      all_goals
        go_ret
        subst_vars
        first
          | exact (C8.out ⟨rfl, rfl, rfl⟩).elim
          | exact ⟨ret_int (by rw [HV.out]), by go_grown⟩
  have HV := Lib.hid (coE_ok (show coOk k st se 0 co cl = true by unfold coOk; simp [c5, c7]; omega))
  have d7 : (k == 4) = false := by simpa using c7
  clear c5 c7
  go_enter Try.func22, Try.ntmps22
  go_wp2
  go_ret
  exact ⟨ret_int (by rw [HV.out]), by go_grown⟩
end Go.Proofs.Ytkbjbpaeoopkfaa
