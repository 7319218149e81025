/- Contracts of the package head, of its reference, and of the law's fixed facts. Conditions: the arguments are in their kinds' ranges. -/
import Derived.Test.YtmlmchgigepleaaWd
import Derived.Test.YtmlmchgigepleaaBt
namespace Go.Proofs.Ytmlmchgigepleaa
open Go.RowKit
set_option linter.unusedVariables false
theorem or_join (x y : Int) (i : Nat) (hx : 0 ≤ x) (hx' : x < 18446744073709551616) (hy : 0 ≤ y) (hm : x % 2 ^ i = 0) (hy' : y < 2 ^ i) (hi : i ≤ 64) : bits .or .u64 x y = x + y := by
  have h64 : (2 : Int) ^ i ≤ 2 ^ 64 := by exact_mod_cast Nat.pow_le_pow_right (by decide) hi
  rw [u64_or x y hx hx' hy (by have : (2 : Int) ^ 64 = 18446744073709551616 := by decide
                               omega)]
  rw [nat_join i]
  · omega
  · have : ((x.toNat % 2 ^ i : Nat) : Int) = x % 2 ^ i := by simp [Int.toNat_of_nonneg hx]
    omega
  · have : ((2 ^ i : Nat) : Int) = 2 ^ i := by simp
    omega
theorem record_or (a0 a1 : Int) : bits .or .u64 (a1 % 4294967296 * 4294967296) (a0 % 4294967296) = recS a0 a1 := by
  rw [or_join _ _ 32 (by omega) (by omega) (by omega) (by omega) (by omega) (by omega)]
  rfl
/-- head.Record -/
theorem record_any (a0 a1 : Int) (w : World) :
    Calls Try.prog 9 #[.int .i32 a0, .int .i32 a1] w fun e w' => e = .returned (.int .u64 (recS a0 a1)) ∧ w = w' := by
  go_enter Try.func9, Try.ntmps9
  go_wp2
  go_ret
  exact ⟨ret_int (record_or _ _), rfl⟩
/-- head.Split -/
theorem split_any (a0 : Int) (w : World) (h0 : 0 ≤ a0) (h1 : a0 ≤ 18446744073709551615) :
    Calls Try.prog 10 #[.int .u64 a0] w fun e w' => e = .returned (.tuple #[.int .i32 (loS a0), .int .i32 (hiS a0)]) ∧ w = w' := by
  go_enter Try.func10, Try.ntmps10
  go_wp2
  go_ret2
  exact ⟨by simp [loS, hiS], rfl⟩
/-- word.IsPower -/
theorem isPower_any (n : Int) (w : World) (h1 : n ≤ 9223372036854775807) :
    Calls Try.prog 56 #[.int .i64 n] w fun e w' => e = .returned (.bool (isP n)) ∧ w = w' := by
  by_cases h : 0 < n
  · have H := Lib.hid (bits_pow n h h1)
    go_enter Try.func56, Try.ntmps56
    go_wp2
    go_ret
    exact ⟨by rw [← H.out]; rfl, rfl⟩
  · have H := Lib.hid (isP_neg n (by omega))
    go_enter Try.func56, Try.ntmps56
    go_wp2
    go_ret
    exact ⟨by rw [H.out]; rfl, rfl⟩
set_option maxHeartbeats 1000000 in
/-- ref01.Log2 -/
theorem refLog2_any (n : Int) (w : World) :
    Calls Try.prog 58 #[.int .i64 n] w fun e w' => e = .returned (.tuple #[.int .i64 (lgS n), .bool (isP n)]) ∧ w = w' := by
  go_enter Try.func58, Try.ntmps58
  go_wp2
  go_loop [4, 5] (fun v i => ∃ k : Nat, k ≤ 63 ∧ i = .int .i64 k ∧ v = .int .i64 (pw k) ∧ Hid (∀ j, j < k → pw j ≠ n)) (fun _ i => 63 - (intOf i).toNat)
  case atStart => exact ⟨0, by omega, rfl, rfl, fun j hj => by omega⟩
  case round =>
    obtain ⟨k, hk, rfl, rfl, hno⟩ := hrel
    by_cases hlt : k ≤ 62
    · have HS := Lib.hid (pw_succ k hlt)
      by_cases he : pw k = n
      · have ht : (pw k == n) = true := by simpa using he
        have HE := Lib.hid he
        clear he
        go_wp2
        go_ret2
        refine ⟨?_, rfl⟩
        have e1 := HE.out
        rw [pw_le k hlt] at e1
        have e2 := lgS_pow k hlt
        have e3 := isP_pow k hlt
        rw [e1] at e2 e3
        rw [e2, e3]
        rfl
      · have ht : (pw k == n) = false := by simpa using he
        have HE := Lib.hid he
        clear he
        go_wp2
        go_round
        case rel =>
          refine ⟨k + 1, by omega, by go_num, int_eq (by rw [← HS.out]; exact (IntWalk.i64_left _).symm), fun j hj => ?_⟩
          by_cases e : j = k
          · subst e; exact HE.out
          · exact hno.out j (by omega)
        case measure => simp [intOf]; omega
    · go_wp2
      go_ret2
      obtain rfl : k = 63 := by omega
      have e3 := isP_none n fun j hj => hno.out j (by omega)
      have e2 : lgS n = 0 := by unfold lgS; rw [e3]; rfl
      rw [e2, e3]
      exact ⟨rfl, rfl⟩
/-- ref01.IsPower -/
theorem refIsPower_any (n : Int) (w : World) :
    Calls Try.prog 57 #[.int .i64 n] w fun e w' => e = .returned (.bool (isP n)) ∧ w = w' := by
  go_enter Try.func57, Try.ntmps57
  go_wp2_with fail
  refine (refLog2_any n _).mono ?_
  rintro e w' ⟨rfl, rfl⟩
  go_wp2_with fail
  go_ret
  exact ⟨rfl, rfl⟩
set_option maxHeartbeats 1000000 in
/-- word.Align -/
theorem align_any (n to : Int) (w : World) (ht : to ≤ 9223372036854775807) :
    Calls Try.prog 54 #[.int .i64 n, .int .i64 to] w fun e w' => e = .returned (.tuple #[.int .i64 (alV n to), .int .i64 (alE n to)]) ∧ w = w' := by
  by_cases hp : isP to = true
  · obtain ⟨k, hk, hto⟩ := (isP_iff to).1 hp
    have hpw := pow62 k hk
    rw [← hto] at hpw
    have HTO := Lib.hid hto
    clear hto
    by_cases h0 : n < 0
    · have HV := Lib.hid (show alV n to = 0 ∧ alE n to = 1 by unfold alV alE alBad; simp [h0])
      go_enter Try.func54, Try.ntmps54
      go_wp2_with (go_at_call 56; refine (isPower_any _ _ ht).mono ?_; rintro e w' ⟨rfl, rfl⟩)
      go_ret2
      exact ⟨by rw [HV.out.1, HV.out.2]; rfl, rfl⟩
    by_cases h1 : 4611686018427387904 < n
    · have HV := Lib.hid (show alV n to = 0 ∧ alE n to = 1 by unfold alV alE alBad; simp [h1])
      go_enter Try.func54, Try.ntmps54
      go_wp2_with (go_at_call 56; refine (isPower_any _ _ ht).mono ?_; rintro e w' ⟨rfl, rfl⟩)
      go_ret2
      exact ⟨by rw [HV.out.1, HV.out.2]; rfl, rfl⟩
    have hbad : alBad n to = false := by unfold alBad; simp [hp, h0, h1]
    have HB := bits_clear n k hk (by omega) (by omega)
    rw [← HTO.out] at HB
    by_cases hm : n % to = 0
    · have HV := Lib.hid (show alV n to = n ∧ alE n to = 0 by unfold alV alE; simp [hbad, hm])
      have hb2 : n / to * to = n := by rw [HTO.out] at hm ⊢; exact even_back n k hm
      rw [hb2] at HB
      clear hb2 hm hbad
      go_enter Try.func54, Try.ntmps54
      go_wp2_with (go_at_call 56; refine (isPower_any _ _ ht).mono ?_; rintro e w' ⟨rfl, rfl⟩)
      go_ret2
      exact ⟨by rw [HV.out.1, HV.out.2]; rfl, rfl⟩
    · have HV := Lib.hid (show alV n to = (n / to + 1) * to ∧ alE n to = 0 by unfold alV alE; simp [hbad, hm])
      have hup := up_le n k hk (by omega) (by omega) (by rw [← HTO.out]; exact hm)
      rw [← HTO.out] at hup
      obtain ⟨u1, u2, u3, u4, u5, u6, u7, u8⟩ := hup
      have hne : (n / to * to == n) = false := by simpa using u7
      have HU := Lib.hid u6
      have v1 : n / to * to + to ≤ 4611686018427387904 := by omega
      clear u6 u7 hm hbad
      go_enter Try.func54, Try.ntmps54
      go_wp2_with (go_at_call 56; refine (isPower_any _ _ ht).mono ?_; rintro e w' ⟨rfl, rfl⟩)
      go_ret2
      exact ⟨by rw [HV.out.1, HV.out.2, ← HU.out]; rfl, rfl⟩
  · have hp' : isP to = false := by simpa using hp
    have HV := Lib.hid (show alV n to = 0 ∧ alE n to = 1 by unfold alV alE alBad; simp [hp'])
    clear hp
    go_enter Try.func54, Try.ntmps54
    go_wp2_with (go_at_call 56; refine (isPower_any _ _ ht).mono ?_; rintro e w' ⟨rfl, rfl⟩)
    go_ret2
    exact ⟨by rw [HV.out.1, HV.out.2]; rfl, rfl⟩
set_option maxHeartbeats 1000000 in
/-- millstreamref01.Align -/
theorem refAlign_any (n to : Int) (w : World) (ht : to ≤ 9223372036854775807) :
    Calls Try.prog 55 #[.int .i64 n, .int .i64 to] w fun e w' => e = .returned (.tuple #[.int .i64 (alV n to), .int .i64 (alE n to)]) ∧ w = w' := by
  by_cases hp : isP to = true
  · obtain ⟨k, hk, hto⟩ := (isP_iff to).1 hp
    have hpw := pow62 k hk
    rw [← hto] at hpw
    have HTO := Lib.hid hto
    clear hto
    by_cases h0 : n < 0
    · have HV := Lib.hid (show alV n to = 0 ∧ alE n to = 1 by unfold alV alE alBad; simp [h0])
      go_enter Try.func55, Try.ntmps55
      go_wp2_with (go_at_call 57; refine (refIsPower_any _ _).mono ?_; rintro e w' ⟨rfl, rfl⟩)
      go_ret2
      exact ⟨by rw [HV.out.1, HV.out.2]; rfl, rfl⟩
    by_cases h1 : 4611686018427387904 < n
    · have HV := Lib.hid (show alV n to = 0 ∧ alE n to = 1 by unfold alV alE alBad; simp [h1])
      go_enter Try.func55, Try.ntmps55
      go_wp2_with (go_at_call 57; refine (refIsPower_any _ _).mono ?_; rintro e w' ⟨rfl, rfl⟩)
      go_ret2
      exact ⟨by rw [HV.out.1, HV.out.2]; rfl, rfl⟩
    have hbad : alBad n to = false := by unfold alBad; simp [hp, h0, h1]
    by_cases hm : n % to = 0
    · have HV := Lib.hid (show alV n to = n ∧ alE n to = 0 by unfold alV alE; simp [hbad, hm])
      have hm2 : (n % to == 0) = true := by simpa using hm
      have HM := Lib.hid hm
      clear hm hbad
      go_enter Try.func55, Try.ntmps55
      go_wp2_with (go_at_call 57; refine (refIsPower_any _ _).mono ?_; rintro e w' ⟨rfl, rfl⟩)
      go_ret2
      exact ⟨by rw [HV.out.1, HV.out.2]; rfl, rfl⟩
    · have HV := Lib.hid (show alV n to = (n / to + 1) * to ∧ alE n to = 0 by unfold alV alE; simp [hbad, hm])
      have hup := up_le n k hk (by omega) (by omega) (by rw [← HTO.out]; exact hm)
      rw [← HTO.out] at hup
      obtain ⟨u1, u2, u3, u4, u5, u6, u7, u8⟩ := hup
      have hm2 : (n % to == 0) = false := by simpa using hm
      have HU := Lib.hid u6
      have v1 : n / to * to + to ≤ 4611686018427387904 := by omega
      clear u6 u7 hm hbad
      go_enter Try.func55, Try.ntmps55
      go_wp2_with (go_at_call 57; refine (refIsPower_any _ _).mono ?_; rintro e w' ⟨rfl, rfl⟩)
      go_ret2
      exact ⟨by rw [HV.out.1, HV.out.2]; rfl, rfl⟩
  · have hp' : isP to = false := by simpa using hp
    have HV := Lib.hid (show alV n to = 0 ∧ alE n to = 1 by unfold alV alE alBad; simp [hp'])
    clear hp
    go_enter Try.func55, Try.ntmps55
    go_wp2_with (go_at_call 57; refine (refIsPower_any _ _).mono ?_; rintro e w' ⟨rfl, rfl⟩)
    go_ret2
    exact ⟨by rw [HV.out.1, HV.out.2]; rfl, rfl⟩
set_option maxHeartbeats 1000000 in
theorem size_any (n h to : Int) (w : World) (h0 : 0 ≤ h) (h1 : h ≤ 1000) (ht0 : 0 ≤ to) (ht : to ≤ 1000) :
    Calls Try.prog 45 #[.int .i64 n, .int .i64 h, .int .i64 to] w fun e w' => e = .returned (.tuple #[.int .i64 (szV n h to), .int .i64 (szE n h to)]) ∧ w = w' := by
  by_cases c1 : n < 0
  · have HV := Lib.hid (show szV n h to = 0 ∧ szE n h to = 1 by unfold szV szE szBad; simp [c1])
    go_enter Try.func45, Try.ntmps45
    go_wp2_with fail
    go_ret2
    exact ⟨by rw [HV.out.1, HV.out.2]; rfl, rfl⟩
  by_cases c2 : 131072 < n
  · have HV := Lib.hid (show szV n h to = 0 ∧ szE n h to = 1 by unfold szV szE szBad; simp [c2])
    go_enter Try.func45, Try.ntmps45
    go_wp2_with fail
    go_ret2
    exact ⟨by rw [HV.out.1, HV.out.2]; rfl, rfl⟩
  have HV := Lib.hid (show szV n h to = alV (n + h) to ∧ szE n h to = alE (n + h) to by unfold szV szE szBad; simp [c1, c2])
  go_enter Try.func45, Try.ntmps45
  go_wp2_with fail
  refine (align_any _ _ _ (by omega)).mono ?_
  rintro e w' ⟨rfl, rfl⟩
  go_wp2_with fail
  go_ret2
  exact ⟨by rw [HV.out.1, HV.out.2]; rfl, rfl⟩
set_option maxHeartbeats 1000000 in
theorem refsize_any (n h to : Int) (w : World) (h0 : 0 ≤ h) (h1 : h ≤ 1000) (ht0 : 0 ≤ to) (ht : to ≤ 1000) :
    Calls Try.prog 46 #[.int .i64 n, .int .i64 h, .int .i64 to] w fun e w' => e = .returned (.tuple #[.int .i64 (szV n h to), .int .i64 (szE n h to)]) ∧ w = w' := by
  by_cases c1 : n < 0
  · have HV := Lib.hid (show szV n h to = 0 ∧ szE n h to = 1 by unfold szV szE szBad; simp [c1])
    go_enter Try.func46, Try.ntmps46
    go_wp2_with fail
    go_ret2
    exact ⟨by rw [HV.out.1, HV.out.2]; rfl, rfl⟩
  by_cases c2 : 131072 < n
  · have HV := Lib.hid (show szV n h to = 0 ∧ szE n h to = 1 by unfold szV szE szBad; simp [c2])
    go_enter Try.func46, Try.ntmps46
    go_wp2_with fail
    go_ret2
    exact ⟨by rw [HV.out.1, HV.out.2]; rfl, rfl⟩
  have HV := Lib.hid (show szV n h to = alV (n + h) to ∧ szE n h to = alE (n + h) to by unfold szV szE szBad; simp [c1, c2])
  go_enter Try.func46, Try.ntmps46
  go_wp2_with fail
  refine (refAlign_any _ _ _ (by omega)).mono ?_
  rintro e w' ⟨rfl, rfl⟩
  go_wp2_with fail
  go_ret2
  exact ⟨by rw [HV.out.1, HV.out.2]; rfl, rfl⟩
theorem recordSize_any (n : Int) (w : World) :
    Calls Try.prog 13 #[.int .i64 n] w fun e w' => e = .returned (.tuple #[.int .i64 (szV n 8 8), .int .i64 (szE n 8 8)]) ∧ w = w' := by
  go_enter Try.func13, Try.ntmps13
  go_wp2_with fail
  refine (size_any n 8 8 _ (by omega) (by omega) (by omega) (by omega)).mono ?_
  rintro e w' ⟨rfl, rfl⟩
  go_wp2_with fail
  go_ret2
  exact ⟨rfl, rfl⟩
theorem frameSize_any (n : Int) (w : World) :
    Calls Try.prog 15 #[.int .i64 n] w fun e w' => e = .returned (.tuple #[.int .i64 (szV n 32 32), .int .i64 (szE n 32 32)]) ∧ w = w' := by
  go_enter Try.func15, Try.ntmps15
  go_wp2_with fail
  refine (size_any n 32 32 _ (by omega) (by omega) (by omega) (by omega)).mono ?_
  rintro e w' ⟨rfl, rfl⟩
  go_wp2_with fail
  go_ret2
  exact ⟨rfl, rfl⟩
theorem refRecordSize_any (n : Int) (w : World) :
    Calls Try.prog 14 #[.int .i64 n] w fun e w' => e = .returned (.tuple #[.int .i64 (szV n 8 8), .int .i64 (szE n 8 8)]) ∧ w = w' := by
  go_enter Try.func14, Try.ntmps14
  go_wp2_with fail
  refine (refsize_any n 8 8 _ (by omega) (by omega) (by omega) (by omega)).mono ?_
  rintro e w' ⟨rfl, rfl⟩
  go_wp2_with fail
  go_ret2
  exact ⟨rfl, rfl⟩
theorem refFrameSize_any (n : Int) (w : World) :
    Calls Try.prog 16 #[.int .i64 n] w fun e w' => e = .returned (.tuple #[.int .i64 (szV n 32 32), .int .i64 (szE n 32 32)]) ∧ w = w' := by
  go_enter Try.func16, Try.ntmps16
  go_wp2_with fail
  refine (refsize_any n 32 32 _ (by omega) (by omega) (by omega) (by omega)).mono ?_
  rintro e w' ⟨rfl, rfl⟩
  go_wp2_with fail
  go_ret2
  exact ⟨rfl, rfl⟩
/-- The flags. -/
def flS (b e : Bool) : Int := (if b = true then 128 else 0) + if e = true then 64 else 0
theorem flags_any (b e : Bool) (w : World) :
    Calls Try.prog 17 #[.bool b, .bool e] w fun e' w' => e' = .returned (.int .u8 (flS b e)) ∧ w = w' := by
  cases b <;> cases e
  all_goals
    go_enter Try.func17, Try.ntmps17
    go_wp2
    go_ret
    exact ⟨ret_int (by decide), rfl⟩
end Go.Proofs.Ytmlmchgigepleaa
