/- Contracts of word.IsPower, word.Align, and of the reference's Log2, IsPower, Align. Conditions: the arguments are in their kinds' ranges. -/
import Derived.Test.YtpicplkbblmbeaaGreatRw
import Derived.Test.YtpicplkbblmbeaaGreatBt
namespace Go.Proofs.YtpicplkbblmbeaaGreat
set_option maxRecDepth 100000
open Go.RowKit
set_option linter.unusedVariables false
/-- word.IsPower -/
theorem isPower_any (n : Int) (w : World) (h1 : n ≤ 9223372036854775807) :
    Calls Tryz.prog 117 #[.int .i64 n] w fun e w' => e = .returned (.bool (isP n)) ∧ w = w' := by
  by_cases h : 0 < n
  · have H := Lib.hid (bits_pow n h h1)
    go_enter Tryz.func117, Tryz.ntmps117
    go_wp2
    go_ret
    exact ⟨by rw [← H.out]; rfl, rfl⟩
  · have H := Lib.hid (isP_neg n (by omega))
    go_enter Tryz.func117, Tryz.ntmps117
    go_wp2
    go_ret
    exact ⟨by rw [H.out]; rfl, rfl⟩
set_option maxHeartbeats 1000000 in
/-- ref01.Log2 -/
theorem refLog2_any (n : Int) (w : World) :
    Calls Tryz.prog 190 #[.int .i64 n] w fun e w' => e = .returned (.tuple #[.int .i64 (lgS n), .bool (isP n)]) ∧ w = w' := by
  go_enter Tryz.func190, Tryz.ntmps190
  go_wp2
  go_loop [4, 5] (fun v i => ∃ k : Nat, k ≤ 63 ∧ i = .int .i64 k ∧ v = .int .i64 (pw k) ∧ Hid (∀ j, j < k → pw j ≠ n)) (fun _ i => 63 - (intOf i).toNat)
  case atStart => exact ⟨0, by omega, rfl, rfl, fun j hj => by omega⟩
  case round =>
    obtain ⟨k, hk, rfl, rfl, hno⟩ := hrel
    by_cases hlt : k ≤ 62
    · have HS := Lib.hid (pw_succ k hlt)
      by_cases he : pw k = n
      · have ht : (pw k == n) = true := by simpa using he
        have HE := Lib.hid he
        clear he
        go_wp2
        go_ret2
        refine ⟨?_, rfl⟩
        have e1 := HE.out
        rw [pw_le k hlt] at e1
        have e2 := lgS_pow k hlt
        have e3 := isP_pow k hlt
        rw [e1] at e2 e3
        rw [e2, e3]
        rfl
      · have ht : (pw k == n) = false := by simpa using he
        have HE := Lib.hid he
        clear he
        go_wp2
        go_round
        case rel =>
          refine ⟨k + 1, by omega, by go_num, int_eq (by rw [← HS.out]; exact (IntWalk.i64_left _).symm), fun j hj => ?_⟩
          by_cases e : j = k
          · subst e; exact HE.out
          · exact hno.out j (by omega)
        case measure => simp [intOf]; omega
    · go_wp2
      go_ret2
      obtain rfl : k = 63 := by omega
      have e3 := isP_none n fun j hj => hno.out j (by omega)
      have e2 : lgS n = 0 := by unfold lgS; rw [e3]; rfl
      rw [e2, e3]
      exact ⟨rfl, rfl⟩
/-- ref01.IsPower -/
theorem refIsPower_any (n : Int) (w : World) :
    Calls Tryz.prog 170 #[.int .i64 n] w fun e w' => e = .returned (.bool (isP n)) ∧ w = w' := by
  go_enter Tryz.func170, Tryz.ntmps170
  go_wp2_with fail
  refine (refLog2_any n _).mono ?_
  rintro e w' ⟨rfl, rfl⟩
  go_wp2_with fail
  go_ret
  exact ⟨rfl, rfl⟩
set_option maxHeartbeats 1000000 in
/-- word.Align -/
theorem align_any (n to : Int) (w : World) (ht : to ≤ 9223372036854775807) :
    Calls Tryz.prog 104 #[.int .i64 n, .int .i64 to] w fun e w' => e = .returned (.tuple #[.int .i64 (alV n to), .int .i64 (alE n to)]) ∧ w = w' := by
  by_cases hp : isP to = true
  · obtain ⟨k, hk, hto⟩ := (isP_iff to).1 hp
    have hpw := pow62 k hk
    rw [← hto] at hpw
    have HTO := Lib.hid hto
    clear hto
    by_cases h0 : n < 0
    · have HV := Lib.hid (show alV n to = 0 ∧ alE n to = 1 by unfold alV alE alBad; simp [h0])
      go_enter Tryz.func104, Tryz.ntmps104
      go_wp2_with (go_at_call 117; refine (isPower_any _ _ ht).mono ?_; rintro e w' ⟨rfl, rfl⟩)
      go_ret2
      exact ⟨by rw [HV.out.1, HV.out.2]; rfl, rfl⟩
    by_cases h1 : 4611686018427387904 < n
    · have HV := Lib.hid (show alV n to = 0 ∧ alE n to = 1 by unfold alV alE alBad; simp [h1])
      go_enter Tryz.func104, Tryz.ntmps104
      go_wp2_with (go_at_call 117; refine (isPower_any _ _ ht).mono ?_; rintro e w' ⟨rfl, rfl⟩)
      go_ret2
      exact ⟨by rw [HV.out.1, HV.out.2]; rfl, rfl⟩
    have hbad : alBad n to = false := by unfold alBad; simp [hp, h0, h1]
    have HB := bits_clear n k hk (by omega) (by omega)
    rw [← HTO.out] at HB
    by_cases hm : n % to = 0
    · have HV := Lib.hid (show alV n to = n ∧ alE n to = 0 by unfold alV alE; simp [hbad, hm])
      have hb2 : n / to * to = n := by rw [HTO.out] at hm ⊢; exact even_back n k hm
      rw [hb2] at HB
      clear hb2 hm hbad
      go_enter Tryz.func104, Tryz.ntmps104
      go_wp2_with (go_at_call 117; refine (isPower_any _ _ ht).mono ?_; rintro e w' ⟨rfl, rfl⟩)
      go_ret2
      exact ⟨by rw [HV.out.1, HV.out.2]; rfl, rfl⟩
    · have HV := Lib.hid (show alV n to = (n / to + 1) * to ∧ alE n to = 0 by unfold alV alE; simp [hbad, hm])
      have hup := up_le n k hk (by omega) (by omega) (by rw [← HTO.out]; exact hm)
      rw [← HTO.out] at hup
      obtain ⟨u1, u2, u3, u4, u5, u6, u7, u8⟩ := hup
      have hne : (n / to * to == n) = false := by simpa using u7
      have HU := Lib.hid u6
      have v1 : n / to * to + to ≤ 4611686018427387904 := by omega
      clear u6 u7 hm hbad
      go_enter Tryz.func104, Tryz.ntmps104
      go_wp2_with (go_at_call 117; refine (isPower_any _ _ ht).mono ?_; rintro e w' ⟨rfl, rfl⟩)
      go_ret2
      exact ⟨by rw [HV.out.1, HV.out.2, ← HU.out]; rfl, rfl⟩
  · have hp' : isP to = false := by simpa using hp
    have HV := Lib.hid (show alV n to = 0 ∧ alE n to = 1 by unfold alV alE alBad; simp [hp'])
    clear hp
    go_enter Tryz.func104, Tryz.ntmps104
    go_wp2_with (go_at_call 117; refine (isPower_any _ _ ht).mono ?_; rintro e w' ⟨rfl, rfl⟩)
    go_ret2
    exact ⟨by rw [HV.out.1, HV.out.2]; rfl, rfl⟩
set_option maxHeartbeats 1000000 in
/-- millstreamref01.Align -/
theorem refAlign_any (n to : Int) (w : World) (ht : to ≤ 9223372036854775807) :
    Calls Tryz.prog 149 #[.int .i64 n, .int .i64 to] w fun e w' => e = .returned (.tuple #[.int .i64 (alV n to), .int .i64 (alE n to)]) ∧ w = w' := by
  by_cases hp : isP to = true
  · obtain ⟨k, hk, hto⟩ := (isP_iff to).1 hp
    have hpw := pow62 k hk
    rw [← hto] at hpw
    have HTO := Lib.hid hto
    clear hto
    by_cases h0 : n < 0
    · have HV := Lib.hid (show alV n to = 0 ∧ alE n to = 1 by unfold alV alE alBad; simp [h0])
      go_enter Tryz.func149, Tryz.ntmps149
      go_wp2_with (go_at_call 170; refine (refIsPower_any _ _).mono ?_; rintro e w' ⟨rfl, rfl⟩)
      go_ret2
      exact ⟨by rw [HV.out.1, HV.out.2]; rfl, rfl⟩
    by_cases h1 : 4611686018427387904 < n
    · have HV := Lib.hid (show alV n to = 0 ∧ alE n to = 1 by unfold alV alE alBad; simp [h1])
      go_enter Tryz.func149, Tryz.ntmps149
      go_wp2_with (go_at_call 170; refine (refIsPower_any _ _).mono ?_; rintro e w' ⟨rfl, rfl⟩)
      go_ret2
      exact ⟨by rw [HV.out.1, HV.out.2]; rfl, rfl⟩
    have hbad : alBad n to = false := by unfold alBad; simp [hp, h0, h1]
    by_cases hm : n % to = 0
    · have HV := Lib.hid (show alV n to = n ∧ alE n to = 0 by unfold alV alE; simp [hbad, hm])
      have hm2 : (n % to == 0) = true := by simpa using hm
      have HM := Lib.hid hm
      clear hm hbad
      go_enter Tryz.func149, Tryz.ntmps149
      go_wp2_with (go_at_call 170; refine (refIsPower_any _ _).mono ?_; rintro e w' ⟨rfl, rfl⟩)
      go_ret2
      exact ⟨by rw [HV.out.1, HV.out.2]; rfl, rfl⟩
    · have HV := Lib.hid (show alV n to = (n / to + 1) * to ∧ alE n to = 0 by unfold alV alE; simp [hbad, hm])
      have hup := up_le n k hk (by omega) (by omega) (by rw [← HTO.out]; exact hm)
      rw [← HTO.out] at hup
      obtain ⟨u1, u2, u3, u4, u5, u6, u7, u8⟩ := hup
      have hm2 : (n % to == 0) = false := by simpa using hm
      have HU := Lib.hid u6
      have v1 : n / to * to + to ≤ 4611686018427387904 := by omega
      clear u6 u7 hm hbad
      go_enter Tryz.func149, Tryz.ntmps149
      go_wp2_with (go_at_call 170; refine (refIsPower_any _ _).mono ?_; rintro e w' ⟨rfl, rfl⟩)
      go_ret2
      exact ⟨by rw [HV.out.1, HV.out.2]; rfl, rfl⟩
  · have hp' : isP to = false := by simpa using hp
    have HV := Lib.hid (show alV n to = 0 ∧ alE n to = 1 by unfold alV alE alBad; simp [hp'])
    clear hp
    go_enter Tryz.func149, Tryz.ntmps149
    go_wp2_with (go_at_call 170; refine (refIsPower_any _ _).mono ?_; rintro e w' ⟨rfl, rfl⟩)
    go_ret2
    exact ⟨by rw [HV.out.1, HV.out.2]; rfl, rfl⟩
end Go.Proofs.YtpicplkbblmbeaaGreat
