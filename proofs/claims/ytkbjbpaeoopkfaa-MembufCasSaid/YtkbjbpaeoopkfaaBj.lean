/- The walk of the law MembufCas. Conditions: the arguments are in their kinds' ranges. -/
import Derived.Test.YtkbjbpaeoopkfaaBi
namespace Go.Proofs.Ytkbjbpaeoopkfaa
set_option maxRecDepth 100000
open Go.RowKit
set_option linter.unusedVariables false
set_option linter.unusedSimpArgs false
theorem rdN_spl (bs : List Int) (a n : Nat) (v : Int) (h : a + n ≤ bs.length) : rdN (spl bs a (leB v n)) a n = v % 256 ^ n := by
  unfold rdN spl
  rw [List.drop_append_of_le_length (by simp; omega), List.drop_eq_nil_of_le (by simp; omega), List.nil_append, List.take_append_of_le_length (by rw [leB_length]; omega), List.take_of_length_le (by rw [leB_length]; omega), leN_leB]
theorem acE_64 (k n : Int) (a : Nat) (bs : List Int) (hl : bs.length = 64) (hk : k = 1 ∨ k = 2 ∨ k = 4) (hn : n = 4 ∨ n = 8) (ha : (a : Int) % n = 0) (ha2 : (a : Int) + n ≤ 64) : acE bs.length k a n ((0 : Nat) : Int) = 0 := by
  have hz : acSized k n ((0 : Nat) : Int) = true := by
    unfold acSized
    rw [if_pos hk]
    rcases hn with rfl | rfl <;> decide
  unfold acE
  rw [if_neg (by rw [hz]; decide), if_neg (by omega), if_neg (by omega)]
set_option maxHeartbeats 2000000 in
theorem cas_half_same (v x y at0 : Int) (w : World) (v0 : 0 ≤ v) (v1 : v ≤ 18446744073709551615) (x0 : 0 ≤ x) (x1 : x ≤ 18446744073709551615) (y0 : 0 ≤ y) (y1 : y ≤ 18446744073709551615) (t0 : 0 ≤ at0) (t1 : at0 ≤ 255) (hq : x % 4294967296 = v % 4294967296) :
    Calls Try.prog 8 #[.int .u64 v, .int .u64 x, .int .u64 y, .int .u8 at0, .bool true] w fun e w' => e = .returned (.bool true) ∧ Below w.heap.size w w' := by
  obtain ⟨V, hV⟩ : ∃ V, v % 4294967296 = V := ⟨_, rfl⟩
  obtain ⟨X, hX⟩ : ∃ X, x % 4294967296 = X := ⟨_, rfl⟩
  obtain ⟨Y, hY⟩ : ∃ Y, y % 4294967296 = Y := ⟨_, rfl⟩
  rw [hX, hV] at hq
  have bV : 0 ≤ V ∧ V < 256 ^ 4 := by
    have e : (256 : Int) ^ 4 = 4294967296 := by decide
    omega
  have bX : 0 ≤ X ∧ X < 256 ^ 4 := by
    have e : (256 : Int) ^ 4 = 4294967296 := by decide
    omega
  have bY : 0 ≤ Y ∧ Y < 256 ^ 4 := by
    have e : (256 : Int) ^ 4 = 4294967296 := by decide
    omega
  subst hq
  obtain ⟨A, hA⟩ : ∃ A : Nat, at0 % 8 * 4 = (A : Int) := Int.eq_ofNat_of_zero_le (by omega)
  have hA1 : A % 4 = 0 := by omega
  have hA2 : A + 4 ≤ 64 := by omega
  have E1 := Lib.hid (Int.emod_eq_of_lt bV.1 bV.2)
  have E2 := Lib.hid (Int.emod_eq_of_lt bX.1 bX.2)
  have E3 := Lib.hid (Int.emod_eq_of_lt bY.1 bY.2)
  have L0 : (List.replicate (8 * 8) (0 : Int)).length = 64 := by simp
  obtain ⟨bs0, hbs0⟩ : ∃ bs0, bs0 = List.replicate (8 * 8) (0 : Int) := ⟨_, rfl⟩
  rw [← hbs0] at L0
  have HB0 := Lib.hid hbs0
  have L1 := spl_len bs0 A (leB X 4) (by rw [leB_length]; omega)
  obtain ⟨bs1, hbs1⟩ : ∃ bs1, bs1 = spl bs0 A (leB X 4) := ⟨_, rfl⟩
  have R1 := Lib.hid (show rdN bs1 A 4 = X by rw [hbs1, rdN_spl _ _ _ _ (by omega), E1.out])
  rw [← hbs1] at L1
  have HB1 := Lib.hid hbs1
  have L2 := spl_len bs1 A (leB X 4) (by rw [leB_length]; omega)
  obtain ⟨bs2, hbs2⟩ : ∃ bs2, bs2 = spl bs1 A (leB X 4) := ⟨_, rfl⟩
  have R2 := Lib.hid (show rdN bs2 A 4 = X by rw [hbs2, rdN_spl _ _ _ _ (by omega), E2.out])
  rw [← hbs2] at L2
  have HB2 := Lib.hid hbs2
  have L3 := spl_len bs2 A (leB Y 4) (by rw [leB_length]; omega)
  obtain ⟨bs3, hbs3⟩ : ∃ bs3, bs3 = spl bs2 A (leB Y 4) := ⟨_, rfl⟩
  have R3 := Lib.hid (show rdN bs3 A 4 = Y by rw [hbs3, rdN_spl _ _ _ _ (by omega), E3.out])
  rw [← hbs3] at L3
  have HB3 := Lib.hid hbs3
  clear hbs3
  clear hbs0 hbs1 hbs2
  have C1 := Lib.hid (acE_64 2 4 A bs0 (by omega) (by decide) (by decide) (by omega) (by omega))
  have C2 := Lib.hid (acE_64 4 4 A bs1 (by omega) (by decide) (by decide) (by omega) (by omega))
  have C3 := Lib.hid (acE_64 4 4 A bs2 (by omega) (by decide) (by decide) (by omega) (by omega))
  have C4 := Lib.hid (acE_64 1 4 A bs3 (by omega) (by decide) (by decide) (by omega) (by omega))
  clear L0 L1 L2 L3 bV bX bY
  go_enter Try.func8, Try.ntmps8
  go_wp2_with fail
  refine (mFixed _).mono ?_
  rintro e w1 ⟨rfl, b1⟩
  go_wp2_with fail
  refine (mNew_lit 64 8 _ (by decide) (by decide) (by decide)).mono ?_
  rintro e w2 ⟨p, c, rfl, hb2, hp, hc, b2⟩
  rw [← HB0.out] at hb2
  have B2 := b1.trans (b2.mono b1.size)
  have z1 := b1.size
  have F2 := Lib.hid hb2
  have hpl := hb2.hd.lt
  have hcl := hb2.wd.lt
  have hp' : w.heap.size ≤ p := by omega
  have hc' : w.heap.size ≤ c := by omega
  clear hb2 b1 b2
  go_wp2_with fail
  refine (mDo_store p c 0 bs0 A 4 X 0 none 0 0 _ F2.out (by decide) (by decide) C1.out (by omega) (by omega)).mono ?_
  rintro e w3 ⟨rfl, hb3, k3⟩
  rw [← HB1.out] at hb3
  have F3 := Lib.hid hb3
  have z3 := k3.size
  clear hb3
  unfold anV
  go_wp2_with fail
  refine (mDo_cas p c (0 + 1) bs1 A 4 X X none 0 0 _ F3.out (by decide) (by decide) C2.out (by omega) (by omega) (by omega) (by omega)).mono ?_
  rintro e w4 ⟨rfl, hb4, k4⟩
  rw [E1.out, R1.out, if_pos rfl, ← HB2.out] at hb4
  rw [E1.out, R1.out, show (X == X) = true by simp]
  have F4 := Lib.hid hb4
  have z4 := k4.size
  have K4 := k3.trans k4
  clear hb4 k3 k4
  unfold anV
  go_wp2_with fail
  refine (mDo_cas p c (0 + 1 + 1) bs2 A 4 X Y none 0 0 _ (F4.out.alloc _) (by decide) (by decide) C3.out (by omega) (by omega) (by omega) (by omega)).mono ?_
  rintro e w5 ⟨rfl, hb5, k5⟩
  rw [E1.out, R2.out, if_pos rfl, ← HB3.out] at hb5
  rw [E1.out, R2.out, show (X == X) = true by simp]
  have F5 := Lib.hid hb5
  have z5 := k5.size
  simp at z5
  have nX : ¬ (w4.heap.size = p ∨ w4.heap.size = c) := by omega
  have X5 := Lib.hid ((Blk.made w4 _ _).keep k5 nX)
  have K5 := (K4.alloc _).trans k5
  clear hb5 k5 K4
  unfold anV
  go_wp2_with fail
  refine (mDo_load p c (0 + 1 + 1 + 1) bs3 A 4 0 0 none 0 0 _ (F5.out.alloc _) (by decide) (by decide) C4.out).mono ?_
  rintro e w6 ⟨rfl, hb6, k6⟩
  rw [R3.out]
  have z6 := k6.size
  simp at z6
  have nX6 : ¬ (w5.heap.size = p ∨ w5.heap.size = c) := by omega
  obtain ⟨q0, q1, q2⟩ := ((X5.out.alloc _).keep k6 nX).c3
  obtain ⟨r0, r1, r2⟩ := ((Blk.made w5 _ _).keep k6 nX6).c3
  have lq : w4.heap.size < w6.heap.size := by omega
  have lr : w5.heap.size < w6.heap.size := by omega
  have K6 := (K5.alloc _).trans k6
  have B6 : Below w.heap.size w w6 := B2.trans (K6.below (by omega) (by intro k h; omega))
  clear k6 hb6 K5 K6
  unfold anV
  go_wp2
  go_ret
  exact ⟨rfl, Below.trans B6 (Below.mono (B := w6.heap.size) (by go_grown) (by omega))⟩
set_option maxHeartbeats 2000000 in
theorem cas_half_other (v x y at0 : Int) (w : World) (v0 : 0 ≤ v) (v1 : v ≤ 18446744073709551615) (x0 : 0 ≤ x) (x1 : x ≤ 18446744073709551615) (y0 : 0 ≤ y) (y1 : y ≤ 18446744073709551615) (t0 : 0 ≤ at0) (t1 : at0 ≤ 255) (hq : x % 4294967296 ≠ v % 4294967296) :
    Calls Try.prog 8 #[.int .u64 v, .int .u64 x, .int .u64 y, .int .u8 at0, .bool true] w fun e w' => e = .returned (.bool true) ∧ Below w.heap.size w w' := by
  obtain ⟨V, hV⟩ : ∃ V, v % 4294967296 = V := ⟨_, rfl⟩
  obtain ⟨X, hX⟩ : ∃ X, x % 4294967296 = X := ⟨_, rfl⟩
  obtain ⟨Y, hY⟩ : ∃ Y, y % 4294967296 = Y := ⟨_, rfl⟩
  rw [hX, hV] at hq
  have bV : 0 ≤ V ∧ V < 256 ^ 4 := by
    have e : (256 : Int) ^ 4 = 4294967296 := by decide
    omega
  have bX : 0 ≤ X ∧ X < 256 ^ 4 := by
    have e : (256 : Int) ^ 4 = 4294967296 := by decide
    omega
  have bY : 0 ≤ Y ∧ Y < 256 ^ 4 := by
    have e : (256 : Int) ^ 4 = 4294967296 := by decide
    omega
  obtain ⟨A, hA⟩ : ∃ A : Nat, at0 % 8 * 4 = (A : Int) := Int.eq_ofNat_of_zero_le (by omega)
  have hA1 : A % 4 = 0 := by omega
  have hA2 : A + 4 ≤ 64 := by omega
  have E1 := Lib.hid (Int.emod_eq_of_lt bV.1 bV.2)
  have E2 := Lib.hid (Int.emod_eq_of_lt bX.1 bX.2)
  have E3 := Lib.hid (Int.emod_eq_of_lt bY.1 bY.2)
  have L0 : (List.replicate (8 * 8) (0 : Int)).length = 64 := by simp
  obtain ⟨bs0, hbs0⟩ : ∃ bs0, bs0 = List.replicate (8 * 8) (0 : Int) := ⟨_, rfl⟩
  rw [← hbs0] at L0
  have HB0 := Lib.hid hbs0
  have L1 := spl_len bs0 A (leB V 4) (by rw [leB_length]; omega)
  obtain ⟨bs1, hbs1⟩ : ∃ bs1, bs1 = spl bs0 A (leB V 4) := ⟨_, rfl⟩
  have R1 := Lib.hid (show rdN bs1 A 4 = V by rw [hbs1, rdN_spl _ _ _ _ (by omega), E1.out])
  rw [← hbs1] at L1
  have HB1 := Lib.hid hbs1
  have L2 := spl_len bs1 A (leB X 4) (by rw [leB_length]; omega)
  obtain ⟨bs2, hbs2⟩ : ∃ bs2, bs2 = spl bs1 A (leB X 4) := ⟨_, rfl⟩
  have R2 := Lib.hid (show rdN bs2 A 4 = X by rw [hbs2, rdN_spl _ _ _ _ (by omega), E2.out])
  rw [← hbs2] at L2
  have HB2 := Lib.hid hbs2
  clear hbs0 hbs1 hbs2
  have C1 := Lib.hid (acE_64 2 4 A bs0 (by omega) (by decide) (by decide) (by omega) (by omega))
  have C2 := Lib.hid (acE_64 4 4 A bs1 (by omega) (by decide) (by decide) (by omega) (by omega))
  have C3 := Lib.hid (acE_64 4 4 A bs2 (by omega) (by decide) (by decide) (by omega) (by omega))
  have C4 := Lib.hid (acE_64 1 4 A bs2 (by omega) (by decide) (by decide) (by omega) (by omega))
  clear L0 L1 L2 bV bX bY
  have HQ := Lib.hid hq
  have d1 : (X == V) = false := by simpa using hq
  have d2 : (X != V) = true := by simpa using hq
  clear hq
  go_enter Try.func8, Try.ntmps8
  go_wp2_with fail
  refine (mFixed _).mono ?_
  rintro e w1 ⟨rfl, b1⟩
  go_wp2_with fail
  refine (mNew_lit 64 8 _ (by decide) (by decide) (by decide)).mono ?_
  rintro e w2 ⟨p, c, rfl, hb2, hp, hc, b2⟩
  rw [← HB0.out] at hb2
  have B2 := b1.trans (b2.mono b1.size)
  have z1 := b1.size
  have F2 := Lib.hid hb2
  have hpl := hb2.hd.lt
  have hcl := hb2.wd.lt
  have hp' : w.heap.size ≤ p := by omega
  have hc' : w.heap.size ≤ c := by omega
  clear hb2 b1 b2
  go_wp2_with fail
  refine (mDo_store p c 0 bs0 A 4 V 0 none 0 0 _ F2.out (by decide) (by decide) C1.out (by omega) (by omega)).mono ?_
  rintro e w3 ⟨rfl, hb3, k3⟩
  rw [← HB1.out] at hb3
  have F3 := Lib.hid hb3
  have z3 := k3.size
  clear hb3
  unfold anV
  go_wp2_with fail
  refine (mDo_cas p c (0 + 1) bs1 A 4 V X none 0 0 _ F3.out (by decide) (by decide) C2.out (by omega) (by omega) (by omega) (by omega)).mono ?_
  rintro e w4 ⟨rfl, hb4, k4⟩
  rw [E1.out, R1.out, if_pos rfl, ← HB2.out] at hb4
  rw [E1.out, R1.out, show (V == V) = true by simp]
  have F4 := Lib.hid hb4
  have z4 := k4.size
  have K4 := k3.trans k4
  clear hb4 k3 k4
  unfold anV
  go_wp2_with fail
  refine (mDo_cas p c (0 + 1 + 1) bs2 A 4 V Y none 0 0 _ (F4.out.alloc _) (by decide) (by decide) C3.out (by omega) (by omega) (by omega) (by omega)).mono ?_
  rintro e w5 ⟨rfl, hb5, k5⟩
  rw [E1.out, R2.out, if_neg HQ.out] at hb5
  rw [E1.out, R2.out, d1]
  have F5 := Lib.hid hb5
  have z5 := k5.size
  simp at z5
  have nX : ¬ (w4.heap.size = p ∨ w4.heap.size = c) := by omega
  have X5 := Lib.hid ((Blk.made w4 _ _).keep k5 nX)
  have K5 := (K4.alloc _).trans k5
  clear hb5 k5 K4
  unfold anV
  go_wp2_with fail
  refine (mDo_load p c (0 + 1 + 1 + 1) bs2 A 4 0 0 none 0 0 _ (F5.out.alloc _) (by decide) (by decide) C4.out).mono ?_
  rintro e w6 ⟨rfl, hb6, k6⟩
  rw [R2.out]
  have z6 := k6.size
  simp at z6
  have nX6 : ¬ (w5.heap.size = p ∨ w5.heap.size = c) := by omega
  obtain ⟨q0, q1, q2⟩ := ((X5.out.alloc _).keep k6 nX).c3
  obtain ⟨r0, r1, r2⟩ := ((Blk.made w5 _ _).keep k6 nX6).c3
  have lq : w4.heap.size < w6.heap.size := by omega
  have lr : w5.heap.size < w6.heap.size := by omega
  have K6 := (K5.alloc _).trans k6
  have B6 : Below w.heap.size w w6 := B2.trans (K6.below (by omega) (by intro k h; omega))
  clear k6 hb6 K5 K6
  unfold anV
  go_wp2
  go_ret
  exact ⟨rfl, Below.trans B6 (Below.mono (B := w6.heap.size) (by go_grown) (by omega))⟩
set_option maxHeartbeats 2000000 in
theorem cas_whole_same (v x y at0 : Int) (w : World) (v0 : 0 ≤ v) (v1 : v ≤ 18446744073709551615) (x0 : 0 ≤ x) (x1 : x ≤ 18446744073709551615) (y0 : 0 ≤ y) (y1 : y ≤ 18446744073709551615) (t0 : 0 ≤ at0) (t1 : at0 ≤ 255) (hq : x = v) :
    Calls Try.prog 8 #[.int .u64 v, .int .u64 x, .int .u64 y, .int .u8 at0, .bool false] w fun e w' => e = .returned (.bool true) ∧ Below w.heap.size w w' := by
  have bV : 0 ≤ v ∧ v < 256 ^ 8 := by
    have e : (256 : Int) ^ 8 = 18446744073709551616 := by decide
    omega
  have bX : 0 ≤ x ∧ x < 256 ^ 8 := by
    have e : (256 : Int) ^ 8 = 18446744073709551616 := by decide
    omega
  have bY : 0 ≤ y ∧ y < 256 ^ 8 := by
    have e : (256 : Int) ^ 8 = 18446744073709551616 := by decide
    omega
  subst hq
  obtain ⟨A, hA⟩ : ∃ A : Nat, at0 % 8 * 8 = (A : Int) := Int.eq_ofNat_of_zero_le (by omega)
  have hA1 : A % 8 = 0 := by omega
  have hA2 : A + 8 ≤ 64 := by omega
  have E1 := Lib.hid (Int.emod_eq_of_lt bV.1 bV.2)
  have E2 := Lib.hid (Int.emod_eq_of_lt bX.1 bX.2)
  have E3 := Lib.hid (Int.emod_eq_of_lt bY.1 bY.2)
  have L0 : (List.replicate (8 * 8) (0 : Int)).length = 64 := by simp
  obtain ⟨bs0, hbs0⟩ : ∃ bs0, bs0 = List.replicate (8 * 8) (0 : Int) := ⟨_, rfl⟩
  rw [← hbs0] at L0
  have HB0 := Lib.hid hbs0
  have L1 := spl_len bs0 A (leB x 8) (by rw [leB_length]; omega)
  obtain ⟨bs1, hbs1⟩ : ∃ bs1, bs1 = spl bs0 A (leB x 8) := ⟨_, rfl⟩
  have R1 := Lib.hid (show rdN bs1 A 8 = x by rw [hbs1, rdN_spl _ _ _ _ (by omega), E1.out])
  rw [← hbs1] at L1
  have HB1 := Lib.hid hbs1
  have L2 := spl_len bs1 A (leB x 8) (by rw [leB_length]; omega)
  obtain ⟨bs2, hbs2⟩ : ∃ bs2, bs2 = spl bs1 A (leB x 8) := ⟨_, rfl⟩
  have R2 := Lib.hid (show rdN bs2 A 8 = x by rw [hbs2, rdN_spl _ _ _ _ (by omega), E2.out])
  rw [← hbs2] at L2
  have HB2 := Lib.hid hbs2
  have L3 := spl_len bs2 A (leB y 8) (by rw [leB_length]; omega)
  obtain ⟨bs3, hbs3⟩ : ∃ bs3, bs3 = spl bs2 A (leB y 8) := ⟨_, rfl⟩
  have R3 := Lib.hid (show rdN bs3 A 8 = y by rw [hbs3, rdN_spl _ _ _ _ (by omega), E3.out])
  rw [← hbs3] at L3
  have HB3 := Lib.hid hbs3
  clear hbs3
  clear hbs0 hbs1 hbs2
  have C1 := Lib.hid (acE_64 2 8 A bs0 (by omega) (by decide) (by decide) (by omega) (by omega))
  have C2 := Lib.hid (acE_64 4 8 A bs1 (by omega) (by decide) (by decide) (by omega) (by omega))
  have C3 := Lib.hid (acE_64 4 8 A bs2 (by omega) (by decide) (by decide) (by omega) (by omega))
  have C4 := Lib.hid (acE_64 1 8 A bs3 (by omega) (by decide) (by decide) (by omega) (by omega))
  clear L0 L1 L2 L3 bV bX bY
  go_enter Try.func8, Try.ntmps8
  go_wp2_with fail
  refine (mFixed _).mono ?_
  rintro e w1 ⟨rfl, b1⟩
  go_wp2_with fail
  refine (mNew_lit 64 8 _ (by decide) (by decide) (by decide)).mono ?_
  rintro e w2 ⟨p, c, rfl, hb2, hp, hc, b2⟩
  rw [← HB0.out] at hb2
  have B2 := b1.trans (b2.mono b1.size)
  have z1 := b1.size
  have F2 := Lib.hid hb2
  have hpl := hb2.hd.lt
  have hcl := hb2.wd.lt
  have hp' : w.heap.size ≤ p := by omega
  have hc' : w.heap.size ≤ c := by omega
  clear hb2 b1 b2
  go_wp2_with fail
  refine (mDo_store p c 0 bs0 A 8 x 0 none 0 0 _ F2.out (by decide) (by decide) C1.out (by omega) (by omega)).mono ?_
  rintro e w3 ⟨rfl, hb3, k3⟩
  rw [← HB1.out] at hb3
  have F3 := Lib.hid hb3
  have z3 := k3.size
  clear hb3
  unfold anV
  go_wp2_with fail
  refine (mDo_cas p c (0 + 1) bs1 A 8 x x none 0 0 _ F3.out (by decide) (by decide) C2.out (by omega) (by omega) (by omega) (by omega)).mono ?_
  rintro e w4 ⟨rfl, hb4, k4⟩
  rw [E1.out, R1.out, if_pos rfl, ← HB2.out] at hb4
  rw [E1.out, R1.out, show (x == x) = true by simp]
  have F4 := Lib.hid hb4
  have z4 := k4.size
  have K4 := k3.trans k4
  clear hb4 k3 k4
  unfold anV
  go_wp2_with fail
  refine (mDo_cas p c (0 + 1 + 1) bs2 A 8 x y none 0 0 _ (F4.out.alloc _) (by decide) (by decide) C3.out (by omega) (by omega) (by omega) (by omega)).mono ?_
  rintro e w5 ⟨rfl, hb5, k5⟩
  rw [E1.out, R2.out, if_pos rfl, ← HB3.out] at hb5
  rw [E1.out, R2.out, show (x == x) = true by simp]
  have F5 := Lib.hid hb5
  have z5 := k5.size
  simp at z5
  have nX : ¬ (w4.heap.size = p ∨ w4.heap.size = c) := by omega
  have X5 := Lib.hid ((Blk.made w4 _ _).keep k5 nX)
  have K5 := (K4.alloc _).trans k5
  clear hb5 k5 K4
  unfold anV
  go_wp2_with fail
  refine (mDo_load p c (0 + 1 + 1 + 1) bs3 A 8 0 0 none 0 0 _ (F5.out.alloc _) (by decide) (by decide) C4.out).mono ?_
  rintro e w6 ⟨rfl, hb6, k6⟩
  rw [R3.out]
  have z6 := k6.size
  simp at z6
  have nX6 : ¬ (w5.heap.size = p ∨ w5.heap.size = c) := by omega
  obtain ⟨q0, q1, q2⟩ := ((X5.out.alloc _).keep k6 nX).c3
  obtain ⟨r0, r1, r2⟩ := ((Blk.made w5 _ _).keep k6 nX6).c3
  have lq : w4.heap.size < w6.heap.size := by omega
  have lr : w5.heap.size < w6.heap.size := by omega
  have K6 := (K5.alloc _).trans k6
  have B6 : Below w.heap.size w w6 := B2.trans (K6.below (by omega) (by intro k h; omega))
  clear k6 hb6 K5 K6
  unfold anV
  go_wp2
  go_ret
  exact ⟨rfl, Below.trans B6 (Below.mono (B := w6.heap.size) (by go_grown) (by omega))⟩
set_option maxHeartbeats 2000000 in
theorem cas_whole_other (v x y at0 : Int) (w : World) (v0 : 0 ≤ v) (v1 : v ≤ 18446744073709551615) (x0 : 0 ≤ x) (x1 : x ≤ 18446744073709551615) (y0 : 0 ≤ y) (y1 : y ≤ 18446744073709551615) (t0 : 0 ≤ at0) (t1 : at0 ≤ 255) (hq : x ≠ v) :
    Calls Try.prog 8 #[.int .u64 v, .int .u64 x, .int .u64 y, .int .u8 at0, .bool false] w fun e w' => e = .returned (.bool true) ∧ Below w.heap.size w w' := by
  have bV : 0 ≤ v ∧ v < 256 ^ 8 := by
    have e : (256 : Int) ^ 8 = 18446744073709551616 := by decide
    omega
  have bX : 0 ≤ x ∧ x < 256 ^ 8 := by
    have e : (256 : Int) ^ 8 = 18446744073709551616 := by decide
    omega
  have bY : 0 ≤ y ∧ y < 256 ^ 8 := by
    have e : (256 : Int) ^ 8 = 18446744073709551616 := by decide
    omega
  obtain ⟨A, hA⟩ : ∃ A : Nat, at0 % 8 * 8 = (A : Int) := Int.eq_ofNat_of_zero_le (by omega)
  have hA1 : A % 8 = 0 := by omega
  have hA2 : A + 8 ≤ 64 := by omega
  have E1 := Lib.hid (Int.emod_eq_of_lt bV.1 bV.2)
  have E2 := Lib.hid (Int.emod_eq_of_lt bX.1 bX.2)
  have E3 := Lib.hid (Int.emod_eq_of_lt bY.1 bY.2)
  have L0 : (List.replicate (8 * 8) (0 : Int)).length = 64 := by simp
  obtain ⟨bs0, hbs0⟩ : ∃ bs0, bs0 = List.replicate (8 * 8) (0 : Int) := ⟨_, rfl⟩
  rw [← hbs0] at L0
  have HB0 := Lib.hid hbs0
  have L1 := spl_len bs0 A (leB v 8) (by rw [leB_length]; omega)
  obtain ⟨bs1, hbs1⟩ : ∃ bs1, bs1 = spl bs0 A (leB v 8) := ⟨_, rfl⟩
  have R1 := Lib.hid (show rdN bs1 A 8 = v by rw [hbs1, rdN_spl _ _ _ _ (by omega), E1.out])
  rw [← hbs1] at L1
  have HB1 := Lib.hid hbs1
  have L2 := spl_len bs1 A (leB x 8) (by rw [leB_length]; omega)
  obtain ⟨bs2, hbs2⟩ : ∃ bs2, bs2 = spl bs1 A (leB x 8) := ⟨_, rfl⟩
  have R2 := Lib.hid (show rdN bs2 A 8 = x by rw [hbs2, rdN_spl _ _ _ _ (by omega), E2.out])
  rw [← hbs2] at L2
  have HB2 := Lib.hid hbs2
  clear hbs0 hbs1 hbs2
  have C1 := Lib.hid (acE_64 2 8 A bs0 (by omega) (by decide) (by decide) (by omega) (by omega))
  have C2 := Lib.hid (acE_64 4 8 A bs1 (by omega) (by decide) (by decide) (by omega) (by omega))
  have C3 := Lib.hid (acE_64 4 8 A bs2 (by omega) (by decide) (by decide) (by omega) (by omega))
  have C4 := Lib.hid (acE_64 1 8 A bs2 (by omega) (by decide) (by decide) (by omega) (by omega))
  clear L0 L1 L2 bV bX bY
  have HQ := Lib.hid hq
  have d1 : (x == v) = false := by simpa using hq
  have d2 : (x != v) = true := by simpa using hq
  clear hq
  go_enter Try.func8, Try.ntmps8
  go_wp2_with fail
  refine (mFixed _).mono ?_
  rintro e w1 ⟨rfl, b1⟩
  go_wp2_with fail
  refine (mNew_lit 64 8 _ (by decide) (by decide) (by decide)).mono ?_
  rintro e w2 ⟨p, c, rfl, hb2, hp, hc, b2⟩
  rw [← HB0.out] at hb2
  have B2 := b1.trans (b2.mono b1.size)
  have z1 := b1.size
  have F2 := Lib.hid hb2
  have hpl := hb2.hd.lt
  have hcl := hb2.wd.lt
  have hp' : w.heap.size ≤ p := by omega
  have hc' : w.heap.size ≤ c := by omega
  clear hb2 b1 b2
  go_wp2_with fail
  refine (mDo_store p c 0 bs0 A 8 v 0 none 0 0 _ F2.out (by decide) (by decide) C1.out (by omega) (by omega)).mono ?_
  rintro e w3 ⟨rfl, hb3, k3⟩
  rw [← HB1.out] at hb3
  have F3 := Lib.hid hb3
  have z3 := k3.size
  clear hb3
  unfold anV
  go_wp2_with fail
  refine (mDo_cas p c (0 + 1) bs1 A 8 v x none 0 0 _ F3.out (by decide) (by decide) C2.out (by omega) (by omega) (by omega) (by omega)).mono ?_
  rintro e w4 ⟨rfl, hb4, k4⟩
  rw [E1.out, R1.out, if_pos rfl, ← HB2.out] at hb4
  rw [E1.out, R1.out, show (v == v) = true by simp]
  have F4 := Lib.hid hb4
  have z4 := k4.size
  have K4 := k3.trans k4
  clear hb4 k3 k4
  unfold anV
  go_wp2_with fail
  refine (mDo_cas p c (0 + 1 + 1) bs2 A 8 v y none 0 0 _ (F4.out.alloc _) (by decide) (by decide) C3.out (by omega) (by omega) (by omega) (by omega)).mono ?_
  rintro e w5 ⟨rfl, hb5, k5⟩
  rw [E1.out, R2.out, if_neg HQ.out] at hb5
  rw [E1.out, R2.out, d1]
  have F5 := Lib.hid hb5
  have z5 := k5.size
  simp at z5
  have nX : ¬ (w4.heap.size = p ∨ w4.heap.size = c) := by omega
  have X5 := Lib.hid ((Blk.made w4 _ _).keep k5 nX)
  have K5 := (K4.alloc _).trans k5
  clear hb5 k5 K4
  unfold anV
  go_wp2_with fail
  refine (mDo_load p c (0 + 1 + 1 + 1) bs2 A 8 0 0 none 0 0 _ (F5.out.alloc _) (by decide) (by decide) C4.out).mono ?_
  rintro e w6 ⟨rfl, hb6, k6⟩
  rw [R2.out]
  have z6 := k6.size
  simp at z6
  have nX6 : ¬ (w5.heap.size = p ∨ w5.heap.size = c) := by omega
  obtain ⟨q0, q1, q2⟩ := ((X5.out.alloc _).keep k6 nX).c3
  obtain ⟨r0, r1, r2⟩ := ((Blk.made w5 _ _).keep k6 nX6).c3
  have lq : w4.heap.size < w6.heap.size := by omega
  have lr : w5.heap.size < w6.heap.size := by omega
  have K6 := (K5.alloc _).trans k6
  have B6 : Below w.heap.size w w6 := B2.trans (K6.below (by omega) (by intro k h; omega))
  clear k6 hb6 K5 K6
  unfold anV
  go_wp2
  go_ret
  exact ⟨rfl, Below.trans B6 (Below.mono (B := w6.heap.size) (by go_grown) (by omega))⟩
end Go.Proofs.Ytkbjbpaeoopkfaa
