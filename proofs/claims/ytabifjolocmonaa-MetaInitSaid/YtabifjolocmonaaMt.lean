/- Contracts of place.IsTerm, of the package meta and of its reference: which logs may be. Conditions: the arguments are in their kinds' ranges. -/
import Derived.Test.YtabifjolocmonaaHl
import Derived.Test.YtabifjolocmonaaTm
import Derived.Deep.RegionHeld3
namespace Go.Proofs.Ytabifjolocmonaa
set_option maxRecDepth 100000
open Go.RowKit
set_option linter.unusedVariables false
theorem mets_any (b t m s i ss st : Int) (w : World) (h0 : 0 ≤ t) (h1 : t ≤ 8192) :
    Calls Try.prog 69 #[.agg #[.int .i64 b, .int .i64 t, .int .i64 m, .int .i64 s, .int .i32 i, .int .i32 ss, .int .i32 st]] w fun e w' => e = .returned (.int .i64 (3 * t + 128)) ∧ w.alloc (.cells #[.int .i64 b, .int .i64 t, .int .i64 m, .int .i64 s, .int .i32 i, .int .i32 ss, .int .i32 st] 41) = w' := by
  go_enter Try.func69, Try.ntmps69
  go_wp2
  go_ret
  exact ⟨rfl, rfl⟩
/-- May a log be? -/
def lgOk (b t m s : Int) : Bool := isT t && decide (32 ≤ m) && decide (m ≤ t / 8) && decide (m % 32 = 0) && decide (1 ≤ s) && decide (s ≤ 8) && decide (0 ≤ b) && decide (b % 8 = 0) && decide (b ≤ 131072 - (3 * t + 128))
def lgE (b t m s : Int) : Int := if lgOk b t m s = true then 0 else 1
set_option maxHeartbeats 4000000 in
theorem metaCheck_any (b t m s i ss st : Int) (w : World) (hb0 : -9223372036854775808 ≤ b) (hb1 : b ≤ 9223372036854775807) (ht : t ≤ 9223372036854775807) (hm0 : -9223372036854775808 ≤ m) :
    Calls Try.prog 31 #[.agg #[.int .i64 b, .int .i64 t, .int .i64 m, .int .i64 s, .int .i32 i, .int .i32 ss, .int .i32 st]] w fun e w' => e = .returned (.int .i64 (lgE b t m s)) ∧ Below w.heap.size w w' := by
  by_cases h1 : isT t = true
  · obtain ⟨t1, t2⟩ := isT_bd h1
    by_cases c1 : m < 32
    · have HV := Lib.hid (show lgE b t m s = 1 by unfold lgE lgOk; simp [show ¬ 32 ≤ m by omega])
      go_enter Try.func31, Try.ntmps31
      go_wp2_with (go_at_call 68; refine (isTerm_any _ _ ht).mono ?_; rintro e w' ⟨rfl, rfl⟩)
      go_ret
      exact ⟨ret_int (by rw [HV.out]), (Below.refl _ _).alloc (Nat.le_refl _) _⟩
    by_cases c2 : t / 8 < m
    · have HV := Lib.hid (show lgE b t m s = 1 by unfold lgE lgOk; simp [show ¬ m ≤ t / 8 by omega])
      go_enter Try.func31, Try.ntmps31
      go_wp2_with (go_at_call 68; refine (isTerm_any _ _ ht).mono ?_; rintro e w' ⟨rfl, rfl⟩)
      go_ret
      exact ⟨ret_int (by rw [HV.out]), (Below.refl _ _).alloc (Nat.le_refl _) _⟩
    by_cases c3 : m % 32 = 0
    · have d3 : (m % 32 != 0) = false := by simp [c3]
      have C3 := Lib.hid c3
      clear c3
      by_cases c4 : s < 1 ∨ 8 < s
      · have HV := Lib.hid (show lgE b t m s = 1 by unfold lgE lgOk; rcases c4 with c | c <;> simp <;> omega)
        rcases c4 with c4 | c4
        all_goals
          go_enter Try.func31, Try.ntmps31
          go_wp2_with (go_at_call 68; refine (isTerm_any _ _ ht).mono ?_; rintro e w' ⟨rfl, rfl⟩)
          go_ret
          exact ⟨ret_int (by rw [HV.out]), (Below.refl _ _).alloc (Nat.le_refl _) _⟩
      · have c4a : 1 ≤ s := by omega
        have c4b : s ≤ 8 := by omega
        clear c4
        go_enter Try.func31, Try.ntmps31
        go_wp2_with (go_at_call 68; refine (isTerm_any _ _ ht).mono ?_; rintro e w' ⟨rfl, rfl⟩)
        have tt0 : 0 ≤ t := by omega
        by_cases c5 : b < 0
        · have HV := Lib.hid (show lgE b t m s = 1 by unfold lgE lgOk; simp [show ¬ 0 ≤ b by omega])
          have g5 : decide (b < 0) = true := by simpa using c5
          go_quiet (fail)
          go_wp2
          go_ret
          exact ⟨ret_int (by rw [HV.out]), bel_drewN _ ((Below.refl _ _).alloc (Nat.le_refl _) _)⟩
        have g5 : decide (b < 0) = false := by simpa using c5
        have gm : b.tmod 8 = b % 8 := Int.tmod_eq_emod_of_nonneg (by omega)
        have gw : IntKind.i64.wrap (131072 - (3 * t + 128)) = 131072 - (3 * t + 128) := IntWalk.i64_in _ ⟨by omega, by omega⟩
        by_cases c6 : b % 8 = 0
        · have d6 : (b % 8 != 0) = false := by simp [c6]
          have C6 := Lib.hid c6
          have HV1 := Lib.hid (show 131072 - (3 * t + 128) < b → lgE b t m s = 1 by intro c; unfold lgE lgOk; simp [show ¬ b ≤ 131072 - (3 * t + 128) by omega])
          have HV0 := Lib.hid (show b ≤ 131072 - (3 * t + 128) → lgE b t m s = 0 by intro c; unfold lgE lgOk; simp [h1, c, c6, C3.out, c4a, c4b, show 32 ≤ m by omega, show m ≤ t / 8 by omega, show 0 ≤ b by omega])
          clear c6
          go_region_held3 (fun w' => w'.cell? ⟨w.heap.size, 0, none⟩ = some (.int .i64 b) ∧ w'.cell? ⟨w.heap.size, 1, none⟩ = some (.int .i64 t) ∧ w'.cell? ⟨w.heap.size, 2, none⟩ = some (.int .i64 m) ∧ w'.cell? ⟨w.heap.size, 3, none⟩ = some (.int .i64 s) ∧ w'.cell? ⟨w.heap.size, 4, none⟩ = some (.int .i32 i) ∧ w'.cell? ⟨w.heap.size, 5, none⟩ = some (.int .i32 ss) ∧ w'.cell? ⟨w.heap.size, 6, none⟩ = some (.int .i32 st)) (go_keep)
            ((go_at_call 69; refine (mets_any _ _ _ _ _ _ _ _ tt0 t2).mono ?_; rintro e w' ⟨rfl, rfl⟩))
          go_wp2
          all_goals
            go_ret
            refine ⟨ret_int ?_, ?_⟩
            · first | exact (HV1.out (by omega)).symm | exact (HV0.out (by omega)).symm
            · first
                | exact bel_drewN 1 (((Below.refl _ _).alloc (Nat.le_refl _) _).alloc (by simp) _)
                | trace_state
        · have d6 : (b % 8 != 0) = true := by simpa using c6
          have HV := Lib.hid (show lgE b t m s = 1 by unfold lgE lgOk; simp [c6])
          clear c6
          go_quiet (fail)
          go_wp2
          go_ret
          exact ⟨ret_int (by rw [HV.out]), bel_drewN _ ((Below.refl _ _).alloc (Nat.le_refl _) _)⟩
    · have d3 : (m % 32 != 0) = true := by simpa using c3
      have HV := Lib.hid (show lgE b t m s = 1 by unfold lgE lgOk; simp [c3])
      clear c3
      go_enter Try.func31, Try.ntmps31
      go_wp2_with (go_at_call 68; refine (isTerm_any _ _ ht).mono ?_; rintro e w' ⟨rfl, rfl⟩)
      go_ret
      exact ⟨ret_int (by rw [HV.out]), (Below.refl _ _).alloc (Nat.le_refl _) _⟩
  · have h1' : isT t = false := by simpa using h1
    have HV := Lib.hid (show lgE b t m s = 1 by unfold lgE lgOk; simp [h1'])
    clear h1
    go_enter Try.func31, Try.ntmps31
    go_wp2_with (go_at_call 68; refine (isTerm_any _ _ ht).mono ?_; rintro e w' ⟨rfl, rfl⟩)
    go_ret
    exact ⟨ret_int (by rw [HV.out]), (Below.refl _ _).alloc (Nat.le_refl _) _⟩
set_option maxHeartbeats 4000000 in
theorem right_any (b t m s i ss st : Int) (w : World) (hb0 : -9223372036854775808 ≤ b) (hb1 : b ≤ 9223372036854775807) (hm0 : -9223372036854775808 ≤ m) :
    Calls Try.prog 30 #[.agg #[.int .i64 b, .int .i64 t, .int .i64 m, .int .i64 s, .int .i32 i, .int .i32 ss, .int .i32 st]] w fun e w' => e = .returned (.bool (lgOk b t m s)) ∧ Below w.heap.size w w' := by
  by_cases h1 : isT t = true
  · obtain ⟨t1, t2⟩ := isT_bd h1
    by_cases c1 : m < 32
    · have HV := Lib.hid (show lgOk b t m s = false by unfold lgOk; simp [show ¬ 32 ≤ m by omega])
      go_enter Try.func30, Try.ntmps30
      go_wp2_with (go_at_call 67; refine (refIsTerm_any _ _).mono ?_; rintro e w' ⟨rfl, rfl⟩)
      go_ret
      exact ⟨by rw [HV.out]; rfl, (Below.refl _ _).alloc (Nat.le_refl _) _⟩
    by_cases c2 : t / 8 < m
    · have HV := Lib.hid (show lgOk b t m s = false by unfold lgOk; simp [show ¬ m ≤ t / 8 by omega])
      go_enter Try.func30, Try.ntmps30
      go_wp2_with (go_at_call 67; refine (refIsTerm_any _ _).mono ?_; rintro e w' ⟨rfl, rfl⟩)
      go_ret
      exact ⟨by rw [HV.out]; rfl, (Below.refl _ _).alloc (Nat.le_refl _) _⟩
    by_cases c3 : m % 32 = 0
    rotate_left
    · have d3 : (m % 32 != 0) = true := by simpa using c3
      have HV := Lib.hid (show lgOk b t m s = false by unfold lgOk; simp [c3])
      clear c3
      go_enter Try.func30, Try.ntmps30
      go_wp2_with (go_at_call 67; refine (refIsTerm_any _ _).mono ?_; rintro e w' ⟨rfl, rfl⟩)
      go_ret
      exact ⟨by rw [HV.out]; rfl, (Below.refl _ _).alloc (Nat.le_refl _) _⟩
    have d3 : (m % 32 != 0) = false := by simp [c3]
    have C3 := Lib.hid c3
    clear c3
    by_cases c4 : s < 1
    · have HV := Lib.hid (show lgOk b t m s = false by unfold lgOk; simp [show ¬ 1 ≤ s by omega])
      go_enter Try.func30, Try.ntmps30
      go_wp2_with (go_at_call 67; refine (refIsTerm_any _ _).mono ?_; rintro e w' ⟨rfl, rfl⟩)
      go_ret
      exact ⟨by rw [HV.out]; rfl, (Below.refl _ _).alloc (Nat.le_refl _) _⟩
    by_cases c5 : 8 < s
    · have HV := Lib.hid (show lgOk b t m s = false by unfold lgOk; simp [show ¬ s ≤ 8 by omega])
      go_enter Try.func30, Try.ntmps30
      go_wp2_with (go_at_call 67; refine (refIsTerm_any _ _).mono ?_; rintro e w' ⟨rfl, rfl⟩)
      go_ret
      exact ⟨by rw [HV.out]; rfl, (Below.refl _ _).alloc (Nat.le_refl _) _⟩
    by_cases c6 : b < 0
    · have HV := Lib.hid (show lgOk b t m s = false by unfold lgOk; simp [show ¬ 0 ≤ b by omega])
      go_enter Try.func30, Try.ntmps30
      go_wp2_with (go_at_call 67; refine (refIsTerm_any _ _).mono ?_; rintro e w' ⟨rfl, rfl⟩)
      go_ret
      exact ⟨by rw [HV.out]; rfl, (Below.refl _ _).alloc (Nat.le_refl _) _⟩
    by_cases c7 : b % 8 = 0
    rotate_left
    · have d7 : (b % 8 == 0) = false := by simpa using c7
      have HV := Lib.hid (show lgOk b t m s = false by unfold lgOk; simp [c7])
      clear c7
      go_enter Try.func30, Try.ntmps30
      go_wp2_with (go_at_call 67; refine (refIsTerm_any _ _).mono ?_; rintro e w' ⟨rfl, rfl⟩)
      go_ret
      exact ⟨by rw [HV.out]; rfl, (Below.refl _ _).alloc (Nat.le_refl _) _⟩
    have d7 : (b % 8 == 0) = true := by simpa using c7
    have C7 := Lib.hid c7
    clear c7
    by_cases c8 : 131072 - 3 * t - 128 < b
    · have HV := Lib.hid (show lgOk b t m s = false by unfold lgOk; simp [show ¬ b ≤ 131072 - (3 * t + 128) by omega])
      go_enter Try.func30, Try.ntmps30
      go_wp2_with (go_at_call 67; refine (refIsTerm_any _ _).mono ?_; rintro e w' ⟨rfl, rfl⟩)
      go_ret
      exact ⟨by rw [HV.out]; first | rfl | (simp; done) | (simp; omega), (Below.refl _ _).alloc (Nat.le_refl _) _⟩
    have HV := Lib.hid (show lgOk b t m s = true by unfold lgOk; simp [h1, C3.out, C7.out, show b ≤ 131072 - (3 * t + 128) by omega, show 32 ≤ m by omega, show m ≤ t / 8 by omega, show 1 ≤ s by omega, show s ≤ 8 by omega, show 0 ≤ b by omega])
    go_enter Try.func30, Try.ntmps30
    go_wp2_with (go_at_call 67; refine (refIsTerm_any _ _).mono ?_; rintro e w' ⟨rfl, rfl⟩)
    go_ret
    exact ⟨by rw [HV.out]; first | rfl | (simp; done) | (simp; omega), (Below.refl _ _).alloc (Nat.le_refl _) _⟩
  · have h1' : isT t = false := by simpa using h1
    have HV := Lib.hid (show lgOk b t m s = false by unfold lgOk; simp [h1'])
    clear h1
    go_enter Try.func30, Try.ntmps30
    go_wp2_with (go_at_call 67; refine (refIsTerm_any _ _).mono ?_; rintro e w' ⟨rfl, rfl⟩)
    go_ret
    exact ⟨by rw [HV.out]; rfl, (Below.refl _ _).alloc (Nat.le_refl _) _⟩
end Go.Proofs.Ytabifjolocmonaa
