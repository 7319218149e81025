/- Contracts of place.IsTerm and of the reference's. Conditions: the arguments are in their kinds' ranges. -/
import Derived.Test.YtabifjolocmonaaWa
namespace Go.Proofs.Ytabifjolocmonaa
open Go.RowKit
set_option linter.unusedVariables false
/-- May a term have so many bytes? -/
def isT (n : Int) : Bool := isP n && decide (256 ≤ n) && decide (n ≤ 8192)
theorem isT_bd {n : Int} (h : isT n = true) : 256 ≤ n ∧ n ≤ 8192 := by unfold isT at h; simp at h; omega
theorem isT_pow {n : Int} (h : isT n = true) : ∃ k, k ≤ 5 ∧ n = 256 * 2 ^ k := by
  unfold isT at h
  simp at h
  obtain ⟨⟨h1, h2⟩, h3⟩ := h
  obtain ⟨k, hk, rfl⟩ := (isP_iff n).1 h1
  by_cases hk8 : k < 8
  · have : (2 : Int) ^ k ≤ 2 ^ 7 := by exact_mod_cast Nat.pow_le_pow_right (by decide) (by omega : k ≤ 7)
    have e : (2 : Int) ^ 7 = 128 := by decide
    omega
  · by_cases hk13 : k ≤ 13
    · refine ⟨k - 8, by omega, ?_⟩
      rw [show (256 : Int) = 2 ^ 8 from by decide, ← Int.pow_add, show 8 + (k - 8) = k from by omega]
    · have : (2 : Int) ^ 14 ≤ 2 ^ k := by exact_mod_cast Nat.pow_le_pow_right (by decide) (by omega : 14 ≤ k)
      have e : (2 : Int) ^ 14 = 16384 := by decide
      omega
/-- place.IsTerm -/
theorem isTerm_any (n : Int) (w : World) (h1 : n ≤ 9223372036854775807) :
    Calls Try.prog 68 #[.int .i64 n] w fun e w' => e = .returned (.bool (isT n)) ∧ w = w' := by
  by_cases hp : isP n = true
  · by_cases h2 : 256 ≤ n
    · by_cases h3 : n ≤ 8192
      · have H := Lib.hid (show isT n = true by unfold isT; simp [hp, h2, h3])
        go_enter Try.func68, Try.ntmps68
        go_wp2_with (go_at_call 101; refine (isPower_any _ _ h1).mono ?_; rintro e w' ⟨rfl, rfl⟩)
        go_ret
        exact ⟨by rw [H.out]; rfl, rfl⟩
      · have H := Lib.hid (show isT n = false by unfold isT; simp [h3])
        go_enter Try.func68, Try.ntmps68
        go_wp2_with (go_at_call 101; refine (isPower_any _ _ h1).mono ?_; rintro e w' ⟨rfl, rfl⟩)
        go_ret
        exact ⟨by rw [H.out]; simp; omega, rfl⟩
    · have H := Lib.hid (show isT n = false by unfold isT; simp [h2])
      go_enter Try.func68, Try.ntmps68
      go_wp2_with (go_at_call 101; refine (isPower_any _ _ h1).mono ?_; rintro e w' ⟨rfl, rfl⟩)
      go_ret
      exact ⟨by rw [H.out]; rfl, rfl⟩
  · have hp' : isP n = false := by simpa using hp
    have H := Lib.hid (show isT n = false by unfold isT; simp [hp'])
    clear hp
    go_enter Try.func68, Try.ntmps68
    go_wp2_with (go_at_call 101; refine (isPower_any _ _ h1).mono ?_; rintro e w' ⟨rfl, rfl⟩)
    go_ret
    exact ⟨by rw [H.out]; rfl, rfl⟩
theorem isT_list (n : Int) : isT n = (n == 256 || n == 512 || n == 1024 || n == 2048 || n == 4096 || n == 8192) := by
  rw [Bool.eq_iff_iff]
  constructor
  · intro h
    obtain ⟨k, hk, rfl⟩ := isT_pow h
    have : k = 0 ∨ k = 1 ∨ k = 2 ∨ k = 3 ∨ k = 4 ∨ k = 5 := by omega
    rcases this with rfl | rfl | rfl | rfl | rfl | rfl <;> decide
  · simp only [Bool.or_eq_true, beq_iff_eq]
    rintro (((((rfl | rfl) | rfl) | rfl) | rfl) | rfl) <;> decide +kernel
set_option maxHeartbeats 1000000 in
/-- ref04.IsTerm -/
theorem refIsTerm_any (n : Int) (w : World) :
    Calls Try.prog 67 #[.int .i64 n] w fun e w' => e = .returned (.bool (isT n)) ∧ w = w' := by
  have H := Lib.hid (isT_list n)
  go_enter Try.func67, Try.ntmps67
  go_wp2
  refine wp_loop_rounds 8 ?_
  repeat any_goals (rw [rounds_succ]; go_wp2)
  all_goals
    go_ret
    refine ⟨?_, rfl⟩
    rw [H.out]
    clear H
    try simp only [beq_iff_eq, beq_eq_false_iff_ne] at *
    first
      | (subst_vars; rfl)
      | (show Ending.returned (Value.bool false) = _
         have e : (n == 256 || n == 512 || n == 1024 || n == 2048 || n == 4096 || n == 8192) = false := by
           simp only [Bool.or_eq_false_iff, beq_eq_false_iff_ne]
           omega
         rw [e])
end Go.Proofs.Ytabifjolocmonaa
