/- Contracts of word.IsPower, word.Align, and of the reference's Log2, IsPower, Align. Conditions: the arguments are in their kinds' ranges. -/
import Derived.Test.YtkbjbpaeoopkfaaRw
import Derived.Test.YtkbjbpaeoopkfaaBt
namespace Go.Proofs.Ytkbjbpaeoopkfaa
set_option maxRecDepth 100000
open Go.RowKit
set_option linter.unusedVariables false
/-- word.IsPower -/
theorem isPower_any (n : Int) (w : World) (h1 : n ≤ 9223372036854775807) :
    Calls Try.prog 113 #[.int .i64 n] w fun e w' => e = .returned (.bool (isP n)) ∧ w = w' := by
  by_cases h : 0 < n
  · have H := Lib.hid (bits_pow n h h1)
    go_enter Try.func113, Try.ntmps113
    go_wp2
    go_ret
    exact ⟨by rw [← H.out]; rfl, rfl⟩
  · have H := Lib.hid (isP_neg n (by omega))
    go_enter Try.func113, Try.ntmps113
    go_wp2
    go_ret
    exact ⟨by rw [H.out]; rfl, rfl⟩
set_option maxHeartbeats 1000000 in
/-- word.Align -/
theorem align_any (n to : Int) (w : World) (ht : to ≤ 9223372036854775807) :
    Calls Try.prog 115 #[.int .i64 n, .int .i64 to] w fun e w' => e = .returned (.tuple #[.int .i64 (alV n to), .int .i64 (alE n to)]) ∧ w = w' := by
  by_cases hp : isP to = true
  · obtain ⟨k, hk, hto⟩ := (isP_iff to).1 hp
    have hpw := pow62 k hk
    rw [← hto] at hpw
    have HTO := Lib.hid hto
    clear hto
    by_cases h0 : n < 0
    · have HV := Lib.hid (show alV n to = 0 ∧ alE n to = 1 by unfold alV alE alBad; simp [h0])
      go_enter Try.func115, Try.ntmps115
      go_wp2_with (go_at_call 113; refine (isPower_any _ _ ht).mono ?_; rintro e w' ⟨rfl, rfl⟩)
      go_ret2
      exact ⟨by rw [HV.out.1, HV.out.2]; rfl, rfl⟩
    by_cases h1 : 4611686018427387904 < n
    · have HV := Lib.hid (show alV n to = 0 ∧ alE n to = 1 by unfold alV alE alBad; simp [h1])
      go_enter Try.func115, Try.ntmps115
      go_wp2_with (go_at_call 113; refine (isPower_any _ _ ht).mono ?_; rintro e w' ⟨rfl, rfl⟩)
      go_ret2
      exact ⟨by rw [HV.out.1, HV.out.2]; rfl, rfl⟩
    have hbad : alBad n to = false := by unfold alBad; simp [hp, h0, h1]
    have HB := bits_clear n k hk (by omega) (by omega)
    rw [← HTO.out] at HB
    by_cases hm : n % to = 0
    · have HV := Lib.hid (show alV n to = n ∧ alE n to = 0 by unfold alV alE; simp [hbad, hm])
      have hb2 : n / to * to = n := by rw [HTO.out] at hm ⊢; exact even_back n k hm
      rw [hb2] at HB
      clear hb2 hm hbad
      go_enter Try.func115, Try.ntmps115
      go_wp2_with (go_at_call 113; refine (isPower_any _ _ ht).mono ?_; rintro e w' ⟨rfl, rfl⟩)
      go_ret2
      exact ⟨by rw [HV.out.1, HV.out.2]; rfl, rfl⟩
    · have HV := Lib.hid (show alV n to = (n / to + 1) * to ∧ alE n to = 0 by unfold alV alE; simp [hbad, hm])
      have hup := up_le n k hk (by omega) (by omega) (by rw [← HTO.out]; exact hm)
      rw [← HTO.out] at hup
      obtain ⟨u1, u2, u3, u4, u5, u6, u7, u8⟩ := hup
      have hne : (n / to * to == n) = false := by simpa using u7
      have HU := Lib.hid u6
      have v1 : n / to * to + to ≤ 4611686018427387904 := by omega
      clear u6 u7 hm hbad
      go_enter Try.func115, Try.ntmps115
      go_wp2_with (go_at_call 113; refine (isPower_any _ _ ht).mono ?_; rintro e w' ⟨rfl, rfl⟩)
      go_ret2
      exact ⟨by rw [HV.out.1, HV.out.2, ← HU.out]; rfl, rfl⟩
  · have hp' : isP to = false := by simpa using hp
    have HV := Lib.hid (show alV n to = 0 ∧ alE n to = 1 by unfold alV alE alBad; simp [hp'])
    clear hp
    go_enter Try.func115, Try.ntmps115
    go_wp2_with (go_at_call 113; refine (isPower_any _ _ ht).mono ?_; rintro e w' ⟨rfl, rfl⟩)
    go_ret2
    exact ⟨by rw [HV.out.1, HV.out.2]; rfl, rfl⟩
end Go.Proofs.Ytkbjbpaeoopkfaa
