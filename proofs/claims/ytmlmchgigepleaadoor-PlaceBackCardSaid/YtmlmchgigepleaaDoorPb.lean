/- The law PlaceBack walked: true, and nothing that was there has turned. Conditions: the arguments are in their kinds' ranges; the table of math/bits holds what the text of the library lays. -/
import Derived.Test.YtmlmchgigepleaaDoorPw
namespace Go.Proofs.YtmlmchgigepleaaDoor
open Go.RowKit
set_option linter.unusedVariables false
/-- What a position below the greatest one tells. -/
theorem back_facts (q i s : Int) (hs : isT s = true) (h0 : 0 ≤ q) (h1 : q < s * 2147483648) (i0 : -2147483648 ≤ i) (i1 : i ≤ 2147483647) :
    teE q s = 0 ∧ teV q i s = wrap32 (i + q / s) ∧ ofV q s = q % s ∧ poE (wrap32 (i + q / s)) i (q % s) s = 0 ∧ poV (wrap32 (i + q / s)) i (q % s) s = q ∧ cnS (wrap32 (i + q / s)) i = q / s ∧ 0 ≤ q / s ∧ q / s < 2147483648 ∧ -2147483648 ≤ wrap32 (i + q / s) ∧ wrap32 (i + q / s) ≤ 2147483647 := by
  have hb := isT_bd hs
  have hw : wiS q s = true := by unfold wiS; rw [mpS_T hs]; simp [h0, h1]
  obtain ⟨d0, d1⟩ := div_bd hw
  have m0 := Int.emod_nonneg q (show s ≠ 0 by omega)
  have m1 := Int.emod_lt_of_pos q (show 0 < s by omega)
  have hc : cnS (wrap32 (i + q / s)) i = q / s := by unfold cnS wrap32; omega
  have hbad : poBad (wrap32 (i + q / s)) i (q % s) s = false := by
    unfold poBad
    rw [hc]
    simp [hs]; omega
  have hq := Int.emod_add_mul_ediv q s
  refine ⟨by unfold teE; rw [if_pos hw], by unfold teV; rw [if_pos hw], by unfold ofV; rw [if_pos hw], by unfold poE; rw [hbad]; rfl, ?_, hc, d0, d1, by unfold wrap32; omega, by unfold wrap32; omega⟩
  unfold poV
  rw [hbad, hc]
  simp only [Bool.false_eq_true, if_false]
  rw [Int.mul_comm]; omega
set_option maxHeartbeats 2000000 in
theorem back_0_0 (i p b : Int) (w : World) (i0 : -2147483648 ≤ i) (i1 : i ≤ 2147483647) (p0 : -9223372036854775808 ≤ p) (p1 : p ≤ 9223372036854775807) (b0 : 0 ≤ b) (b1 : b ≤ 255) (hb : b % 6 = 0) (hp : 0 ≤ p) (hT : TabOk w) :
    Calls Tryd.prog 7 #[.int .i32 i, .int .i64 p, .int .u8 b] w fun e w' => e = .returned (.bool true) ∧ Below w.heap.size w w' := by
  have HT := Lib.hid hT
  clear hT
  obtain ⟨q, q0, q1, hq⟩ : ∃ q : Int, 0 ≤ q ∧ q < 549755813888 ∧ p % 549755813888 = q := ⟨_, by omega, by omega, rfl⟩
  have hm : mpS 256 = 549755813888 := by decide +kernel
  obtain ⟨f1, f2, f3, f4, f5, f6, f7, f8, f9, f10⟩ := back_facts q i 256 (by decide +kernel) (by omega) (by omega) i0 i1
  have hne : (q / 256 % 3 != (q / 256 + 1) % 3) = true := by simp; omega
  go_enter Tryd.func7, Tryd.ntmps7
  go_wp2_with (first
      | (go_at_call 23; refine (fixed04_any _ HT.out).mono ?_; rintro e w' ⟨rfl, rfl⟩)
      | (go_at_call 34; refine (maxPos_any _ _ (by omega)).mono ?_; rintro e w' ⟨rfl, rfl⟩)
      | (go_at_call 26; refine (term_any _ _ _ _ (by omega) (by omega) i0 i1 (by omega) HT.out).mono ?_; rintro e w' ⟨rfl, rfl⟩)
      | (go_at_call 28; refine (offset_any _ _ _ (by omega)).mono ?_; rintro e w' ⟨rfl, rfl⟩)
      | (go_at_call 24; refine (position_any _ _ _ _ _ (by omega) (by omega) i0 i1 (by omega)).mono ?_; rintro e w' ⟨rfl, rfl⟩)
      | (go_at_call 30; refine (count_any _ _ _ (by omega) (by omega) i0 i1).mono ?_; rintro e w' ⟨rfl, rfl⟩)
      | (go_at_call 36; refine (part_any _ _ (by omega) (by omega)).mono ?_; rintro e w' ⟨rfl, rfl⟩))
  go_ret
  exact ⟨rfl, Below.refl _ _⟩
set_option maxHeartbeats 2000000 in
theorem back_0_1 (i p b : Int) (w : World) (i0 : -2147483648 ≤ i) (i1 : i ≤ 2147483647) (p0 : -9223372036854775808 ≤ p) (p1 : p ≤ 9223372036854775807) (b0 : 0 ≤ b) (b1 : b ≤ 255) (hb : b % 6 = 0) (hp : p < 0) (hr : p.tmod 549755813888 < 0) (hT : TabOk w) :
    Calls Tryd.prog 7 #[.int .i32 i, .int .i64 p, .int .u8 b] w fun e w' => e = .returned (.bool true) ∧ Below w.heap.size w w' := by
  have HT := Lib.hid hT
  clear hT
  have h5 : -549755813888 < p.tmod 549755813888 := Int.lt_tmod_of_pos p (by omega)
  obtain ⟨q, q0, q1, hq⟩ : ∃ q : Int, 0 < q ∧ q < 549755813888 ∧ p.tmod 549755813888 = -q := ⟨-(p.tmod 549755813888), by omega, by omega, by omega⟩
  clear h5 hr
  have hm : mpS 256 = 549755813888 := by decide +kernel
  obtain ⟨f1, f2, f3, f4, f5, f6, f7, f8, f9, f10⟩ := back_facts q i 256 (by decide +kernel) (by omega) (by omega) i0 i1
  have hne : (q / 256 % 3 != (q / 256 + 1) % 3) = true := by simp; omega
  go_enter Tryd.func7, Tryd.ntmps7
  go_wp2_with (first
      | (go_at_call 23; refine (fixed04_any _ HT.out).mono ?_; rintro e w' ⟨rfl, rfl⟩)
      | (go_at_call 34; refine (maxPos_any _ _ (by omega)).mono ?_; rintro e w' ⟨rfl, rfl⟩)
      | (go_at_call 26; refine (term_any _ _ _ _ (by omega) (by omega) i0 i1 (by omega) HT.out).mono ?_; rintro e w' ⟨rfl, rfl⟩)
      | (go_at_call 28; refine (offset_any _ _ _ (by omega)).mono ?_; rintro e w' ⟨rfl, rfl⟩)
      | (go_at_call 24; refine (position_any _ _ _ _ _ (by omega) (by omega) i0 i1 (by omega)).mono ?_; rintro e w' ⟨rfl, rfl⟩)
      | (go_at_call 30; refine (count_any _ _ _ (by omega) (by omega) i0 i1).mono ?_; rintro e w' ⟨rfl, rfl⟩)
      | (go_at_call 36; refine (part_any _ _ (by omega) (by omega)).mono ?_; rintro e w' ⟨rfl, rfl⟩))
  go_ret
  exact ⟨rfl, Below.refl _ _⟩
set_option maxHeartbeats 2000000 in
theorem back_0_2 (i p b : Int) (w : World) (i0 : -2147483648 ≤ i) (i1 : i ≤ 2147483647) (p0 : -9223372036854775808 ≤ p) (p1 : p ≤ 9223372036854775807) (b0 : 0 ≤ b) (b1 : b ≤ 255) (hb : b % 6 = 0) (hp : p < 0) (hr : 0 ≤ p.tmod 549755813888) (hT : TabOk w) :
    Calls Tryd.prog 7 #[.int .i32 i, .int .i64 p, .int .u8 b] w fun e w' => e = .returned (.bool true) ∧ Below w.heap.size w w' := by
  have HT := Lib.hid hT
  clear hT
  have h5 : p.tmod 549755813888 < 549755813888 := Int.tmod_lt_of_pos p (by omega)
  obtain ⟨q, q0, q1, hq⟩ : ∃ q : Int, 0 ≤ q ∧ q < 549755813888 ∧ p.tmod 549755813888 = q := ⟨_, hr, h5, rfl⟩
  clear h5 hr
  have hm : mpS 256 = 549755813888 := by decide +kernel
  obtain ⟨f1, f2, f3, f4, f5, f6, f7, f8, f9, f10⟩ := back_facts q i 256 (by decide +kernel) (by omega) (by omega) i0 i1
  have hne : (q / 256 % 3 != (q / 256 + 1) % 3) = true := by simp; omega
  go_enter Tryd.func7, Tryd.ntmps7
  go_wp2_with (first
      | (go_at_call 23; refine (fixed04_any _ HT.out).mono ?_; rintro e w' ⟨rfl, rfl⟩)
      | (go_at_call 34; refine (maxPos_any _ _ (by omega)).mono ?_; rintro e w' ⟨rfl, rfl⟩)
      | (go_at_call 26; refine (term_any _ _ _ _ (by omega) (by omega) i0 i1 (by omega) HT.out).mono ?_; rintro e w' ⟨rfl, rfl⟩)
      | (go_at_call 28; refine (offset_any _ _ _ (by omega)).mono ?_; rintro e w' ⟨rfl, rfl⟩)
      | (go_at_call 24; refine (position_any _ _ _ _ _ (by omega) (by omega) i0 i1 (by omega)).mono ?_; rintro e w' ⟨rfl, rfl⟩)
      | (go_at_call 30; refine (count_any _ _ _ (by omega) (by omega) i0 i1).mono ?_; rintro e w' ⟨rfl, rfl⟩)
      | (go_at_call 36; refine (part_any _ _ (by omega) (by omega)).mono ?_; rintro e w' ⟨rfl, rfl⟩))
  go_ret
  exact ⟨rfl, Below.refl _ _⟩
set_option maxHeartbeats 2000000 in
theorem back_1_0 (i p b : Int) (w : World) (i0 : -2147483648 ≤ i) (i1 : i ≤ 2147483647) (p0 : -9223372036854775808 ≤ p) (p1 : p ≤ 9223372036854775807) (b0 : 0 ≤ b) (b1 : b ≤ 255) (hb : b % 6 = 1) (hp : 0 ≤ p) (hT : TabOk w) :
    Calls Tryd.prog 7 #[.int .i32 i, .int .i64 p, .int .u8 b] w fun e w' => e = .returned (.bool true) ∧ Below w.heap.size w w' := by
  have HT := Lib.hid hT
  clear hT
  obtain ⟨q, q0, q1, hq⟩ : ∃ q : Int, 0 ≤ q ∧ q < 1099511627776 ∧ p % 1099511627776 = q := ⟨_, by omega, by omega, rfl⟩
  have hm : mpS 512 = 1099511627776 := by decide +kernel
  obtain ⟨f1, f2, f3, f4, f5, f6, f7, f8, f9, f10⟩ := back_facts q i 512 (by decide +kernel) (by omega) (by omega) i0 i1
  have hne : (q / 512 % 3 != (q / 512 + 1) % 3) = true := by simp; omega
  go_enter Tryd.func7, Tryd.ntmps7
  go_wp2_with (first
      | (go_at_call 23; refine (fixed04_any _ HT.out).mono ?_; rintro e w' ⟨rfl, rfl⟩)
      | (go_at_call 34; refine (maxPos_any _ _ (by omega)).mono ?_; rintro e w' ⟨rfl, rfl⟩)
      | (go_at_call 26; refine (term_any _ _ _ _ (by omega) (by omega) i0 i1 (by omega) HT.out).mono ?_; rintro e w' ⟨rfl, rfl⟩)
      | (go_at_call 28; refine (offset_any _ _ _ (by omega)).mono ?_; rintro e w' ⟨rfl, rfl⟩)
      | (go_at_call 24; refine (position_any _ _ _ _ _ (by omega) (by omega) i0 i1 (by omega)).mono ?_; rintro e w' ⟨rfl, rfl⟩)
      | (go_at_call 30; refine (count_any _ _ _ (by omega) (by omega) i0 i1).mono ?_; rintro e w' ⟨rfl, rfl⟩)
      | (go_at_call 36; refine (part_any _ _ (by omega) (by omega)).mono ?_; rintro e w' ⟨rfl, rfl⟩))
  go_ret
  exact ⟨rfl, Below.refl _ _⟩
set_option maxHeartbeats 2000000 in
theorem back_1_1 (i p b : Int) (w : World) (i0 : -2147483648 ≤ i) (i1 : i ≤ 2147483647) (p0 : -9223372036854775808 ≤ p) (p1 : p ≤ 9223372036854775807) (b0 : 0 ≤ b) (b1 : b ≤ 255) (hb : b % 6 = 1) (hp : p < 0) (hr : p.tmod 1099511627776 < 0) (hT : TabOk w) :
    Calls Tryd.prog 7 #[.int .i32 i, .int .i64 p, .int .u8 b] w fun e w' => e = .returned (.bool true) ∧ Below w.heap.size w w' := by
  have HT := Lib.hid hT
  clear hT
  have h5 : -1099511627776 < p.tmod 1099511627776 := Int.lt_tmod_of_pos p (by omega)
  obtain ⟨q, q0, q1, hq⟩ : ∃ q : Int, 0 < q ∧ q < 1099511627776 ∧ p.tmod 1099511627776 = -q := ⟨-(p.tmod 1099511627776), by omega, by omega, by omega⟩
  clear h5 hr
  have hm : mpS 512 = 1099511627776 := by decide +kernel
  obtain ⟨f1, f2, f3, f4, f5, f6, f7, f8, f9, f10⟩ := back_facts q i 512 (by decide +kernel) (by omega) (by omega) i0 i1
  have hne : (q / 512 % 3 != (q / 512 + 1) % 3) = true := by simp; omega
  go_enter Tryd.func7, Tryd.ntmps7
  go_wp2_with (first
      | (go_at_call 23; refine (fixed04_any _ HT.out).mono ?_; rintro e w' ⟨rfl, rfl⟩)
      | (go_at_call 34; refine (maxPos_any _ _ (by omega)).mono ?_; rintro e w' ⟨rfl, rfl⟩)
      | (go_at_call 26; refine (term_any _ _ _ _ (by omega) (by omega) i0 i1 (by omega) HT.out).mono ?_; rintro e w' ⟨rfl, rfl⟩)
      | (go_at_call 28; refine (offset_any _ _ _ (by omega)).mono ?_; rintro e w' ⟨rfl, rfl⟩)
      | (go_at_call 24; refine (position_any _ _ _ _ _ (by omega) (by omega) i0 i1 (by omega)).mono ?_; rintro e w' ⟨rfl, rfl⟩)
      | (go_at_call 30; refine (count_any _ _ _ (by omega) (by omega) i0 i1).mono ?_; rintro e w' ⟨rfl, rfl⟩)
      | (go_at_call 36; refine (part_any _ _ (by omega) (by omega)).mono ?_; rintro e w' ⟨rfl, rfl⟩))
  go_ret
  exact ⟨rfl, Below.refl _ _⟩
set_option maxHeartbeats 2000000 in
theorem back_1_2 (i p b : Int) (w : World) (i0 : -2147483648 ≤ i) (i1 : i ≤ 2147483647) (p0 : -9223372036854775808 ≤ p) (p1 : p ≤ 9223372036854775807) (b0 : 0 ≤ b) (b1 : b ≤ 255) (hb : b % 6 = 1) (hp : p < 0) (hr : 0 ≤ p.tmod 1099511627776) (hT : TabOk w) :
    Calls Tryd.prog 7 #[.int .i32 i, .int .i64 p, .int .u8 b] w fun e w' => e = .returned (.bool true) ∧ Below w.heap.size w w' := by
  have HT := Lib.hid hT
  clear hT
  have h5 : p.tmod 1099511627776 < 1099511627776 := Int.tmod_lt_of_pos p (by omega)
  obtain ⟨q, q0, q1, hq⟩ : ∃ q : Int, 0 ≤ q ∧ q < 1099511627776 ∧ p.tmod 1099511627776 = q := ⟨_, hr, h5, rfl⟩
  clear h5 hr
  have hm : mpS 512 = 1099511627776 := by decide +kernel
  obtain ⟨f1, f2, f3, f4, f5, f6, f7, f8, f9, f10⟩ := back_facts q i 512 (by decide +kernel) (by omega) (by omega) i0 i1
  have hne : (q / 512 % 3 != (q / 512 + 1) % 3) = true := by simp; omega
  go_enter Tryd.func7, Tryd.ntmps7
  go_wp2_with (first
      | (go_at_call 23; refine (fixed04_any _ HT.out).mono ?_; rintro e w' ⟨rfl, rfl⟩)
      | (go_at_call 34; refine (maxPos_any _ _ (by omega)).mono ?_; rintro e w' ⟨rfl, rfl⟩)
      | (go_at_call 26; refine (term_any _ _ _ _ (by omega) (by omega) i0 i1 (by omega) HT.out).mono ?_; rintro e w' ⟨rfl, rfl⟩)
      | (go_at_call 28; refine (offset_any _ _ _ (by omega)).mono ?_; rintro e w' ⟨rfl, rfl⟩)
      | (go_at_call 24; refine (position_any _ _ _ _ _ (by omega) (by omega) i0 i1 (by omega)).mono ?_; rintro e w' ⟨rfl, rfl⟩)
      | (go_at_call 30; refine (count_any _ _ _ (by omega) (by omega) i0 i1).mono ?_; rintro e w' ⟨rfl, rfl⟩)
      | (go_at_call 36; refine (part_any _ _ (by omega) (by omega)).mono ?_; rintro e w' ⟨rfl, rfl⟩))
  go_ret
  exact ⟨rfl, Below.refl _ _⟩
set_option maxHeartbeats 2000000 in
theorem back_2_0 (i p b : Int) (w : World) (i0 : -2147483648 ≤ i) (i1 : i ≤ 2147483647) (p0 : -9223372036854775808 ≤ p) (p1 : p ≤ 9223372036854775807) (b0 : 0 ≤ b) (b1 : b ≤ 255) (hb : b % 6 = 2) (hp : 0 ≤ p) (hT : TabOk w) :
    Calls Tryd.prog 7 #[.int .i32 i, .int .i64 p, .int .u8 b] w fun e w' => e = .returned (.bool true) ∧ Below w.heap.size w w' := by
  have HT := Lib.hid hT
  clear hT
  obtain ⟨q, q0, q1, hq⟩ : ∃ q : Int, 0 ≤ q ∧ q < 2199023255552 ∧ p % 2199023255552 = q := ⟨_, by omega, by omega, rfl⟩
  have hm : mpS 1024 = 2199023255552 := by decide +kernel
  obtain ⟨f1, f2, f3, f4, f5, f6, f7, f8, f9, f10⟩ := back_facts q i 1024 (by decide +kernel) (by omega) (by omega) i0 i1
  have hne : (q / 1024 % 3 != (q / 1024 + 1) % 3) = true := by simp; omega
  go_enter Tryd.func7, Tryd.ntmps7
  go_wp2_with (first
      | (go_at_call 23; refine (fixed04_any _ HT.out).mono ?_; rintro e w' ⟨rfl, rfl⟩)
      | (go_at_call 34; refine (maxPos_any _ _ (by omega)).mono ?_; rintro e w' ⟨rfl, rfl⟩)
      | (go_at_call 26; refine (term_any _ _ _ _ (by omega) (by omega) i0 i1 (by omega) HT.out).mono ?_; rintro e w' ⟨rfl, rfl⟩)
      | (go_at_call 28; refine (offset_any _ _ _ (by omega)).mono ?_; rintro e w' ⟨rfl, rfl⟩)
      | (go_at_call 24; refine (position_any _ _ _ _ _ (by omega) (by omega) i0 i1 (by omega)).mono ?_; rintro e w' ⟨rfl, rfl⟩)
      | (go_at_call 30; refine (count_any _ _ _ (by omega) (by omega) i0 i1).mono ?_; rintro e w' ⟨rfl, rfl⟩)
      | (go_at_call 36; refine (part_any _ _ (by omega) (by omega)).mono ?_; rintro e w' ⟨rfl, rfl⟩))
  go_ret
  exact ⟨rfl, Below.refl _ _⟩
set_option maxHeartbeats 2000000 in
theorem back_2_1 (i p b : Int) (w : World) (i0 : -2147483648 ≤ i) (i1 : i ≤ 2147483647) (p0 : -9223372036854775808 ≤ p) (p1 : p ≤ 9223372036854775807) (b0 : 0 ≤ b) (b1 : b ≤ 255) (hb : b % 6 = 2) (hp : p < 0) (hr : p.tmod 2199023255552 < 0) (hT : TabOk w) :
    Calls Tryd.prog 7 #[.int .i32 i, .int .i64 p, .int .u8 b] w fun e w' => e = .returned (.bool true) ∧ Below w.heap.size w w' := by
  have HT := Lib.hid hT
  clear hT
  have h5 : -2199023255552 < p.tmod 2199023255552 := Int.lt_tmod_of_pos p (by omega)
  obtain ⟨q, q0, q1, hq⟩ : ∃ q : Int, 0 < q ∧ q < 2199023255552 ∧ p.tmod 2199023255552 = -q := ⟨-(p.tmod 2199023255552), by omega, by omega, by omega⟩
  clear h5 hr
  have hm : mpS 1024 = 2199023255552 := by decide +kernel
  obtain ⟨f1, f2, f3, f4, f5, f6, f7, f8, f9, f10⟩ := back_facts q i 1024 (by decide +kernel) (by omega) (by omega) i0 i1
  have hne : (q / 1024 % 3 != (q / 1024 + 1) % 3) = true := by simp; omega
  go_enter Tryd.func7, Tryd.ntmps7
  go_wp2_with (first
      | (go_at_call 23; refine (fixed04_any _ HT.out).mono ?_; rintro e w' ⟨rfl, rfl⟩)
      | (go_at_call 34; refine (maxPos_any _ _ (by omega)).mono ?_; rintro e w' ⟨rfl, rfl⟩)
      | (go_at_call 26; refine (term_any _ _ _ _ (by omega) (by omega) i0 i1 (by omega) HT.out).mono ?_; rintro e w' ⟨rfl, rfl⟩)
      | (go_at_call 28; refine (offset_any _ _ _ (by omega)).mono ?_; rintro e w' ⟨rfl, rfl⟩)
      | (go_at_call 24; refine (position_any _ _ _ _ _ (by omega) (by omega) i0 i1 (by omega)).mono ?_; rintro e w' ⟨rfl, rfl⟩)
      | (go_at_call 30; refine (count_any _ _ _ (by omega) (by omega) i0 i1).mono ?_; rintro e w' ⟨rfl, rfl⟩)
      | (go_at_call 36; refine (part_any _ _ (by omega) (by omega)).mono ?_; rintro e w' ⟨rfl, rfl⟩))
  go_ret
  exact ⟨rfl, Below.refl _ _⟩
set_option maxHeartbeats 2000000 in
theorem back_2_2 (i p b : Int) (w : World) (i0 : -2147483648 ≤ i) (i1 : i ≤ 2147483647) (p0 : -9223372036854775808 ≤ p) (p1 : p ≤ 9223372036854775807) (b0 : 0 ≤ b) (b1 : b ≤ 255) (hb : b % 6 = 2) (hp : p < 0) (hr : 0 ≤ p.tmod 2199023255552) (hT : TabOk w) :
    Calls Tryd.prog 7 #[.int .i32 i, .int .i64 p, .int .u8 b] w fun e w' => e = .returned (.bool true) ∧ Below w.heap.size w w' := by
  have HT := Lib.hid hT
  clear hT
  have h5 : p.tmod 2199023255552 < 2199023255552 := Int.tmod_lt_of_pos p (by omega)
  obtain ⟨q, q0, q1, hq⟩ : ∃ q : Int, 0 ≤ q ∧ q < 2199023255552 ∧ p.tmod 2199023255552 = q := ⟨_, hr, h5, rfl⟩
  clear h5 hr
  have hm : mpS 1024 = 2199023255552 := by decide +kernel
  obtain ⟨f1, f2, f3, f4, f5, f6, f7, f8, f9, f10⟩ := back_facts q i 1024 (by decide +kernel) (by omega) (by omega) i0 i1
  have hne : (q / 1024 % 3 != (q / 1024 + 1) % 3) = true := by simp; omega
  go_enter Tryd.func7, Tryd.ntmps7
  go_wp2_with (first
      | (go_at_call 23; refine (fixed04_any _ HT.out).mono ?_; rintro e w' ⟨rfl, rfl⟩)
      | (go_at_call 34; refine (maxPos_any _ _ (by omega)).mono ?_; rintro e w' ⟨rfl, rfl⟩)
      | (go_at_call 26; refine (term_any _ _ _ _ (by omega) (by omega) i0 i1 (by omega) HT.out).mono ?_; rintro e w' ⟨rfl, rfl⟩)
      | (go_at_call 28; refine (offset_any _ _ _ (by omega)).mono ?_; rintro e w' ⟨rfl, rfl⟩)
      | (go_at_call 24; refine (position_any _ _ _ _ _ (by omega) (by omega) i0 i1 (by omega)).mono ?_; rintro e w' ⟨rfl, rfl⟩)
      | (go_at_call 30; refine (count_any _ _ _ (by omega) (by omega) i0 i1).mono ?_; rintro e w' ⟨rfl, rfl⟩)
      | (go_at_call 36; refine (part_any _ _ (by omega) (by omega)).mono ?_; rintro e w' ⟨rfl, rfl⟩))
  go_ret
  exact ⟨rfl, Below.refl _ _⟩
set_option maxHeartbeats 2000000 in
theorem back_3_0 (i p b : Int) (w : World) (i0 : -2147483648 ≤ i) (i1 : i ≤ 2147483647) (p0 : -9223372036854775808 ≤ p) (p1 : p ≤ 9223372036854775807) (b0 : 0 ≤ b) (b1 : b ≤ 255) (hb : b % 6 = 3) (hp : 0 ≤ p) (hT : TabOk w) :
    Calls Tryd.prog 7 #[.int .i32 i, .int .i64 p, .int .u8 b] w fun e w' => e = .returned (.bool true) ∧ Below w.heap.size w w' := by
  have HT := Lib.hid hT
  clear hT
  obtain ⟨q, q0, q1, hq⟩ : ∃ q : Int, 0 ≤ q ∧ q < 4398046511104 ∧ p % 4398046511104 = q := ⟨_, by omega, by omega, rfl⟩
  have hm : mpS 2048 = 4398046511104 := by decide +kernel
  obtain ⟨f1, f2, f3, f4, f5, f6, f7, f8, f9, f10⟩ := back_facts q i 2048 (by decide +kernel) (by omega) (by omega) i0 i1
  have hne : (q / 2048 % 3 != (q / 2048 + 1) % 3) = true := by simp; omega
  go_enter Tryd.func7, Tryd.ntmps7
  go_wp2_with (first
      | (go_at_call 23; refine (fixed04_any _ HT.out).mono ?_; rintro e w' ⟨rfl, rfl⟩)
      | (go_at_call 34; refine (maxPos_any _ _ (by omega)).mono ?_; rintro e w' ⟨rfl, rfl⟩)
      | (go_at_call 26; refine (term_any _ _ _ _ (by omega) (by omega) i0 i1 (by omega) HT.out).mono ?_; rintro e w' ⟨rfl, rfl⟩)
      | (go_at_call 28; refine (offset_any _ _ _ (by omega)).mono ?_; rintro e w' ⟨rfl, rfl⟩)
      | (go_at_call 24; refine (position_any _ _ _ _ _ (by omega) (by omega) i0 i1 (by omega)).mono ?_; rintro e w' ⟨rfl, rfl⟩)
      | (go_at_call 30; refine (count_any _ _ _ (by omega) (by omega) i0 i1).mono ?_; rintro e w' ⟨rfl, rfl⟩)
      | (go_at_call 36; refine (part_any _ _ (by omega) (by omega)).mono ?_; rintro e w' ⟨rfl, rfl⟩))
  go_ret
  exact ⟨rfl, Below.refl _ _⟩
set_option maxHeartbeats 2000000 in
theorem back_3_1 (i p b : Int) (w : World) (i0 : -2147483648 ≤ i) (i1 : i ≤ 2147483647) (p0 : -9223372036854775808 ≤ p) (p1 : p ≤ 9223372036854775807) (b0 : 0 ≤ b) (b1 : b ≤ 255) (hb : b % 6 = 3) (hp : p < 0) (hr : p.tmod 4398046511104 < 0) (hT : TabOk w) :
    Calls Tryd.prog 7 #[.int .i32 i, .int .i64 p, .int .u8 b] w fun e w' => e = .returned (.bool true) ∧ Below w.heap.size w w' := by
  have HT := Lib.hid hT
  clear hT
  have h5 : -4398046511104 < p.tmod 4398046511104 := Int.lt_tmod_of_pos p (by omega)
  obtain ⟨q, q0, q1, hq⟩ : ∃ q : Int, 0 < q ∧ q < 4398046511104 ∧ p.tmod 4398046511104 = -q := ⟨-(p.tmod 4398046511104), by omega, by omega, by omega⟩
  clear h5 hr
  have hm : mpS 2048 = 4398046511104 := by decide +kernel
  obtain ⟨f1, f2, f3, f4, f5, f6, f7, f8, f9, f10⟩ := back_facts q i 2048 (by decide +kernel) (by omega) (by omega) i0 i1
  have hne : (q / 2048 % 3 != (q / 2048 + 1) % 3) = true := by simp; omega
  go_enter Tryd.func7, Tryd.ntmps7
  go_wp2_with (first
      | (go_at_call 23; refine (fixed04_any _ HT.out).mono ?_; rintro e w' ⟨rfl, rfl⟩)
      | (go_at_call 34; refine (maxPos_any _ _ (by omega)).mono ?_; rintro e w' ⟨rfl, rfl⟩)
      | (go_at_call 26; refine (term_any _ _ _ _ (by omega) (by omega) i0 i1 (by omega) HT.out).mono ?_; rintro e w' ⟨rfl, rfl⟩)
      | (go_at_call 28; refine (offset_any _ _ _ (by omega)).mono ?_; rintro e w' ⟨rfl, rfl⟩)
      | (go_at_call 24; refine (position_any _ _ _ _ _ (by omega) (by omega) i0 i1 (by omega)).mono ?_; rintro e w' ⟨rfl, rfl⟩)
      | (go_at_call 30; refine (count_any _ _ _ (by omega) (by omega) i0 i1).mono ?_; rintro e w' ⟨rfl, rfl⟩)
      | (go_at_call 36; refine (part_any _ _ (by omega) (by omega)).mono ?_; rintro e w' ⟨rfl, rfl⟩))
  go_ret
  exact ⟨rfl, Below.refl _ _⟩
set_option maxHeartbeats 2000000 in
theorem back_3_2 (i p b : Int) (w : World) (i0 : -2147483648 ≤ i) (i1 : i ≤ 2147483647) (p0 : -9223372036854775808 ≤ p) (p1 : p ≤ 9223372036854775807) (b0 : 0 ≤ b) (b1 : b ≤ 255) (hb : b % 6 = 3) (hp : p < 0) (hr : 0 ≤ p.tmod 4398046511104) (hT : TabOk w) :
    Calls Tryd.prog 7 #[.int .i32 i, .int .i64 p, .int .u8 b] w fun e w' => e = .returned (.bool true) ∧ Below w.heap.size w w' := by
  have HT := Lib.hid hT
  clear hT
  have h5 : p.tmod 4398046511104 < 4398046511104 := Int.tmod_lt_of_pos p (by omega)
  obtain ⟨q, q0, q1, hq⟩ : ∃ q : Int, 0 ≤ q ∧ q < 4398046511104 ∧ p.tmod 4398046511104 = q := ⟨_, hr, h5, rfl⟩
  clear h5 hr
  have hm : mpS 2048 = 4398046511104 := by decide +kernel
  obtain ⟨f1, f2, f3, f4, f5, f6, f7, f8, f9, f10⟩ := back_facts q i 2048 (by decide +kernel) (by omega) (by omega) i0 i1
  have hne : (q / 2048 % 3 != (q / 2048 + 1) % 3) = true := by simp; omega
  go_enter Tryd.func7, Tryd.ntmps7
  go_wp2_with (first
      | (go_at_call 23; refine (fixed04_any _ HT.out).mono ?_; rintro e w' ⟨rfl, rfl⟩)
      | (go_at_call 34; refine (maxPos_any _ _ (by omega)).mono ?_; rintro e w' ⟨rfl, rfl⟩)
      | (go_at_call 26; refine (term_any _ _ _ _ (by omega) (by omega) i0 i1 (by omega) HT.out).mono ?_; rintro e w' ⟨rfl, rfl⟩)
      | (go_at_call 28; refine (offset_any _ _ _ (by omega)).mono ?_; rintro e w' ⟨rfl, rfl⟩)
      | (go_at_call 24; refine (position_any _ _ _ _ _ (by omega) (by omega) i0 i1 (by omega)).mono ?_; rintro e w' ⟨rfl, rfl⟩)
      | (go_at_call 30; refine (count_any _ _ _ (by omega) (by omega) i0 i1).mono ?_; rintro e w' ⟨rfl, rfl⟩)
      | (go_at_call 36; refine (part_any _ _ (by omega) (by omega)).mono ?_; rintro e w' ⟨rfl, rfl⟩))
  go_ret
  exact ⟨rfl, Below.refl _ _⟩
set_option maxHeartbeats 2000000 in
theorem back_4_0 (i p b : Int) (w : World) (i0 : -2147483648 ≤ i) (i1 : i ≤ 2147483647) (p0 : -9223372036854775808 ≤ p) (p1 : p ≤ 9223372036854775807) (b0 : 0 ≤ b) (b1 : b ≤ 255) (hb : b % 6 = 4) (hp : 0 ≤ p) (hT : TabOk w) :
    Calls Tryd.prog 7 #[.int .i32 i, .int .i64 p, .int .u8 b] w fun e w' => e = .returned (.bool true) ∧ Below w.heap.size w w' := by
  have HT := Lib.hid hT
  clear hT
  obtain ⟨q, q0, q1, hq⟩ : ∃ q : Int, 0 ≤ q ∧ q < 8796093022208 ∧ p % 8796093022208 = q := ⟨_, by omega, by omega, rfl⟩
  have hm : mpS 4096 = 8796093022208 := by decide +kernel
  obtain ⟨f1, f2, f3, f4, f5, f6, f7, f8, f9, f10⟩ := back_facts q i 4096 (by decide +kernel) (by omega) (by omega) i0 i1
  have hne : (q / 4096 % 3 != (q / 4096 + 1) % 3) = true := by simp; omega
  go_enter Tryd.func7, Tryd.ntmps7
  go_wp2_with (first
      | (go_at_call 23; refine (fixed04_any _ HT.out).mono ?_; rintro e w' ⟨rfl, rfl⟩)
      | (go_at_call 34; refine (maxPos_any _ _ (by omega)).mono ?_; rintro e w' ⟨rfl, rfl⟩)
      | (go_at_call 26; refine (term_any _ _ _ _ (by omega) (by omega) i0 i1 (by omega) HT.out).mono ?_; rintro e w' ⟨rfl, rfl⟩)
      | (go_at_call 28; refine (offset_any _ _ _ (by omega)).mono ?_; rintro e w' ⟨rfl, rfl⟩)
      | (go_at_call 24; refine (position_any _ _ _ _ _ (by omega) (by omega) i0 i1 (by omega)).mono ?_; rintro e w' ⟨rfl, rfl⟩)
      | (go_at_call 30; refine (count_any _ _ _ (by omega) (by omega) i0 i1).mono ?_; rintro e w' ⟨rfl, rfl⟩)
      | (go_at_call 36; refine (part_any _ _ (by omega) (by omega)).mono ?_; rintro e w' ⟨rfl, rfl⟩))
  go_ret
  exact ⟨rfl, Below.refl _ _⟩
set_option maxHeartbeats 2000000 in
theorem back_4_1 (i p b : Int) (w : World) (i0 : -2147483648 ≤ i) (i1 : i ≤ 2147483647) (p0 : -9223372036854775808 ≤ p) (p1 : p ≤ 9223372036854775807) (b0 : 0 ≤ b) (b1 : b ≤ 255) (hb : b % 6 = 4) (hp : p < 0) (hr : p.tmod 8796093022208 < 0) (hT : TabOk w) :
    Calls Tryd.prog 7 #[.int .i32 i, .int .i64 p, .int .u8 b] w fun e w' => e = .returned (.bool true) ∧ Below w.heap.size w w' := by
  have HT := Lib.hid hT
  clear hT
  have h5 : -8796093022208 < p.tmod 8796093022208 := Int.lt_tmod_of_pos p (by omega)
  obtain ⟨q, q0, q1, hq⟩ : ∃ q : Int, 0 < q ∧ q < 8796093022208 ∧ p.tmod 8796093022208 = -q := ⟨-(p.tmod 8796093022208), by omega, by omega, by omega⟩
  clear h5 hr
  have hm : mpS 4096 = 8796093022208 := by decide +kernel
  obtain ⟨f1, f2, f3, f4, f5, f6, f7, f8, f9, f10⟩ := back_facts q i 4096 (by decide +kernel) (by omega) (by omega) i0 i1
  have hne : (q / 4096 % 3 != (q / 4096 + 1) % 3) = true := by simp; omega
  go_enter Tryd.func7, Tryd.ntmps7
  go_wp2_with (first
      | (go_at_call 23; refine (fixed04_any _ HT.out).mono ?_; rintro e w' ⟨rfl, rfl⟩)
      | (go_at_call 34; refine (maxPos_any _ _ (by omega)).mono ?_; rintro e w' ⟨rfl, rfl⟩)
      | (go_at_call 26; refine (term_any _ _ _ _ (by omega) (by omega) i0 i1 (by omega) HT.out).mono ?_; rintro e w' ⟨rfl, rfl⟩)
      | (go_at_call 28; refine (offset_any _ _ _ (by omega)).mono ?_; rintro e w' ⟨rfl, rfl⟩)
      | (go_at_call 24; refine (position_any _ _ _ _ _ (by omega) (by omega) i0 i1 (by omega)).mono ?_; rintro e w' ⟨rfl, rfl⟩)
      | (go_at_call 30; refine (count_any _ _ _ (by omega) (by omega) i0 i1).mono ?_; rintro e w' ⟨rfl, rfl⟩)
      | (go_at_call 36; refine (part_any _ _ (by omega) (by omega)).mono ?_; rintro e w' ⟨rfl, rfl⟩))
  go_ret
  exact ⟨rfl, Below.refl _ _⟩
set_option maxHeartbeats 2000000 in
theorem back_4_2 (i p b : Int) (w : World) (i0 : -2147483648 ≤ i) (i1 : i ≤ 2147483647) (p0 : -9223372036854775808 ≤ p) (p1 : p ≤ 9223372036854775807) (b0 : 0 ≤ b) (b1 : b ≤ 255) (hb : b % 6 = 4) (hp : p < 0) (hr : 0 ≤ p.tmod 8796093022208) (hT : TabOk w) :
    Calls Tryd.prog 7 #[.int .i32 i, .int .i64 p, .int .u8 b] w fun e w' => e = .returned (.bool true) ∧ Below w.heap.size w w' := by
  have HT := Lib.hid hT
  clear hT
  have h5 : p.tmod 8796093022208 < 8796093022208 := Int.tmod_lt_of_pos p (by omega)
  obtain ⟨q, q0, q1, hq⟩ : ∃ q : Int, 0 ≤ q ∧ q < 8796093022208 ∧ p.tmod 8796093022208 = q := ⟨_, hr, h5, rfl⟩
  clear h5 hr
  have hm : mpS 4096 = 8796093022208 := by decide +kernel
  obtain ⟨f1, f2, f3, f4, f5, f6, f7, f8, f9, f10⟩ := back_facts q i 4096 (by decide +kernel) (by omega) (by omega) i0 i1
  have hne : (q / 4096 % 3 != (q / 4096 + 1) % 3) = true := by simp; omega
  go_enter Tryd.func7, Tryd.ntmps7
  go_wp2_with (first
      | (go_at_call 23; refine (fixed04_any _ HT.out).mono ?_; rintro e w' ⟨rfl, rfl⟩)
      | (go_at_call 34; refine (maxPos_any _ _ (by omega)).mono ?_; rintro e w' ⟨rfl, rfl⟩)
      | (go_at_call 26; refine (term_any _ _ _ _ (by omega) (by omega) i0 i1 (by omega) HT.out).mono ?_; rintro e w' ⟨rfl, rfl⟩)
      | (go_at_call 28; refine (offset_any _ _ _ (by omega)).mono ?_; rintro e w' ⟨rfl, rfl⟩)
      | (go_at_call 24; refine (position_any _ _ _ _ _ (by omega) (by omega) i0 i1 (by omega)).mono ?_; rintro e w' ⟨rfl, rfl⟩)
      | (go_at_call 30; refine (count_any _ _ _ (by omega) (by omega) i0 i1).mono ?_; rintro e w' ⟨rfl, rfl⟩)
      | (go_at_call 36; refine (part_any _ _ (by omega) (by omega)).mono ?_; rintro e w' ⟨rfl, rfl⟩))
  go_ret
  exact ⟨rfl, Below.refl _ _⟩
set_option maxHeartbeats 2000000 in
theorem back_5_0 (i p b : Int) (w : World) (i0 : -2147483648 ≤ i) (i1 : i ≤ 2147483647) (p0 : -9223372036854775808 ≤ p) (p1 : p ≤ 9223372036854775807) (b0 : 0 ≤ b) (b1 : b ≤ 255) (hb : b % 6 = 5) (hp : 0 ≤ p) (hT : TabOk w) :
    Calls Tryd.prog 7 #[.int .i32 i, .int .i64 p, .int .u8 b] w fun e w' => e = .returned (.bool true) ∧ Below w.heap.size w w' := by
  have HT := Lib.hid hT
  clear hT
  obtain ⟨q, q0, q1, hq⟩ : ∃ q : Int, 0 ≤ q ∧ q < 17592186044416 ∧ p % 17592186044416 = q := ⟨_, by omega, by omega, rfl⟩
  have hm : mpS 8192 = 17592186044416 := by decide +kernel
  obtain ⟨f1, f2, f3, f4, f5, f6, f7, f8, f9, f10⟩ := back_facts q i 8192 (by decide +kernel) (by omega) (by omega) i0 i1
  have hne : (q / 8192 % 3 != (q / 8192 + 1) % 3) = true := by simp; omega
  go_enter Tryd.func7, Tryd.ntmps7
  go_wp2_with (first
      | (go_at_call 23; refine (fixed04_any _ HT.out).mono ?_; rintro e w' ⟨rfl, rfl⟩)
      | (go_at_call 34; refine (maxPos_any _ _ (by omega)).mono ?_; rintro e w' ⟨rfl, rfl⟩)
      | (go_at_call 26; refine (term_any _ _ _ _ (by omega) (by omega) i0 i1 (by omega) HT.out).mono ?_; rintro e w' ⟨rfl, rfl⟩)
      | (go_at_call 28; refine (offset_any _ _ _ (by omega)).mono ?_; rintro e w' ⟨rfl, rfl⟩)
      | (go_at_call 24; refine (position_any _ _ _ _ _ (by omega) (by omega) i0 i1 (by omega)).mono ?_; rintro e w' ⟨rfl, rfl⟩)
      | (go_at_call 30; refine (count_any _ _ _ (by omega) (by omega) i0 i1).mono ?_; rintro e w' ⟨rfl, rfl⟩)
      | (go_at_call 36; refine (part_any _ _ (by omega) (by omega)).mono ?_; rintro e w' ⟨rfl, rfl⟩))
  go_ret
  exact ⟨rfl, Below.refl _ _⟩
set_option maxHeartbeats 2000000 in
theorem back_5_1 (i p b : Int) (w : World) (i0 : -2147483648 ≤ i) (i1 : i ≤ 2147483647) (p0 : -9223372036854775808 ≤ p) (p1 : p ≤ 9223372036854775807) (b0 : 0 ≤ b) (b1 : b ≤ 255) (hb : b % 6 = 5) (hp : p < 0) (hr : p.tmod 17592186044416 < 0) (hT : TabOk w) :
    Calls Tryd.prog 7 #[.int .i32 i, .int .i64 p, .int .u8 b] w fun e w' => e = .returned (.bool true) ∧ Below w.heap.size w w' := by
  have HT := Lib.hid hT
  clear hT
  have h5 : -17592186044416 < p.tmod 17592186044416 := Int.lt_tmod_of_pos p (by omega)
  obtain ⟨q, q0, q1, hq⟩ : ∃ q : Int, 0 < q ∧ q < 17592186044416 ∧ p.tmod 17592186044416 = -q := ⟨-(p.tmod 17592186044416), by omega, by omega, by omega⟩
  clear h5 hr
  have hm : mpS 8192 = 17592186044416 := by decide +kernel
  obtain ⟨f1, f2, f3, f4, f5, f6, f7, f8, f9, f10⟩ := back_facts q i 8192 (by decide +kernel) (by omega) (by omega) i0 i1
  have hne : (q / 8192 % 3 != (q / 8192 + 1) % 3) = true := by simp; omega
  go_enter Tryd.func7, Tryd.ntmps7
  go_wp2_with (first
      | (go_at_call 23; refine (fixed04_any _ HT.out).mono ?_; rintro e w' ⟨rfl, rfl⟩)
      | (go_at_call 34; refine (maxPos_any _ _ (by omega)).mono ?_; rintro e w' ⟨rfl, rfl⟩)
      | (go_at_call 26; refine (term_any _ _ _ _ (by omega) (by omega) i0 i1 (by omega) HT.out).mono ?_; rintro e w' ⟨rfl, rfl⟩)
      | (go_at_call 28; refine (offset_any _ _ _ (by omega)).mono ?_; rintro e w' ⟨rfl, rfl⟩)
      | (go_at_call 24; refine (position_any _ _ _ _ _ (by omega) (by omega) i0 i1 (by omega)).mono ?_; rintro e w' ⟨rfl, rfl⟩)
      | (go_at_call 30; refine (count_any _ _ _ (by omega) (by omega) i0 i1).mono ?_; rintro e w' ⟨rfl, rfl⟩)
      | (go_at_call 36; refine (part_any _ _ (by omega) (by omega)).mono ?_; rintro e w' ⟨rfl, rfl⟩))
  go_ret
  exact ⟨rfl, Below.refl _ _⟩
set_option maxHeartbeats 2000000 in
theorem back_5_2 (i p b : Int) (w : World) (i0 : -2147483648 ≤ i) (i1 : i ≤ 2147483647) (p0 : -9223372036854775808 ≤ p) (p1 : p ≤ 9223372036854775807) (b0 : 0 ≤ b) (b1 : b ≤ 255) (hb : b % 6 = 5) (hp : p < 0) (hr : 0 ≤ p.tmod 17592186044416) (hT : TabOk w) :
    Calls Tryd.prog 7 #[.int .i32 i, .int .i64 p, .int .u8 b] w fun e w' => e = .returned (.bool true) ∧ Below w.heap.size w w' := by
  have HT := Lib.hid hT
  clear hT
  have h5 : p.tmod 17592186044416 < 17592186044416 := Int.tmod_lt_of_pos p (by omega)
  obtain ⟨q, q0, q1, hq⟩ : ∃ q : Int, 0 ≤ q ∧ q < 17592186044416 ∧ p.tmod 17592186044416 = q := ⟨_, hr, h5, rfl⟩
  clear h5 hr
  have hm : mpS 8192 = 17592186044416 := by decide +kernel
  obtain ⟨f1, f2, f3, f4, f5, f6, f7, f8, f9, f10⟩ := back_facts q i 8192 (by decide +kernel) (by omega) (by omega) i0 i1
  have hne : (q / 8192 % 3 != (q / 8192 + 1) % 3) = true := by simp; omega
  go_enter Tryd.func7, Tryd.ntmps7
  go_wp2_with (first
      | (go_at_call 23; refine (fixed04_any _ HT.out).mono ?_; rintro e w' ⟨rfl, rfl⟩)
      | (go_at_call 34; refine (maxPos_any _ _ (by omega)).mono ?_; rintro e w' ⟨rfl, rfl⟩)
      | (go_at_call 26; refine (term_any _ _ _ _ (by omega) (by omega) i0 i1 (by omega) HT.out).mono ?_; rintro e w' ⟨rfl, rfl⟩)
      | (go_at_call 28; refine (offset_any _ _ _ (by omega)).mono ?_; rintro e w' ⟨rfl, rfl⟩)
      | (go_at_call 24; refine (position_any _ _ _ _ _ (by omega) (by omega) i0 i1 (by omega)).mono ?_; rintro e w' ⟨rfl, rfl⟩)
      | (go_at_call 30; refine (count_any _ _ _ (by omega) (by omega) i0 i1).mono ?_; rintro e w' ⟨rfl, rfl⟩)
      | (go_at_call 36; refine (part_any _ _ (by omega) (by omega)).mono ?_; rintro e w' ⟨rfl, rfl⟩))
  go_ret
  exact ⟨rfl, Below.refl _ _⟩
/-- law04.PlaceBack -/
theorem placeBack_walk (i : Int) (wi : (Lit.int .i32 i).wf = true) (p : Int) (wp : (Lit.int .i64 p).wf = true) (b : Int) (wb : (Lit.int .u8 b).wf = true) (w : World) (hT : TabOk w) :
    Calls Tryd.prog 7 #[.int .i32 i, .int .i64 p, .int .u8 b] w fun e w' => e = .returned (.bool true) ∧ Below w.heap.size w w' := by
  obtain ⟨i0, i1⟩ := i32_bd wi
  obtain ⟨p0, p1⟩ := i64_bd wp
  obtain ⟨b0, b1⟩ := u8_bd' wb
  have h6 : b % 6 = 0 ∨ b % 6 = 1 ∨ b % 6 = 2 ∨ b % 6 = 3 ∨ b % 6 = 4 ∨ b % 6 = 5 := by omega
  rcases h6 with h | h | h | h | h | h
  · by_cases hp : 0 ≤ p
    · exact back_0_0 i p b w i0 i1 p0 p1 b0 b1 h hp hT
    · by_cases hr : p.tmod 549755813888 < 0
      · exact back_0_1 i p b w i0 i1 p0 p1 b0 b1 h (by omega) hr hT
      · exact back_0_2 i p b w i0 i1 p0 p1 b0 b1 h (by omega) (by omega) hT
  · by_cases hp : 0 ≤ p
    · exact back_1_0 i p b w i0 i1 p0 p1 b0 b1 h hp hT
    · by_cases hr : p.tmod 1099511627776 < 0
      · exact back_1_1 i p b w i0 i1 p0 p1 b0 b1 h (by omega) hr hT
      · exact back_1_2 i p b w i0 i1 p0 p1 b0 b1 h (by omega) (by omega) hT
  · by_cases hp : 0 ≤ p
    · exact back_2_0 i p b w i0 i1 p0 p1 b0 b1 h hp hT
    · by_cases hr : p.tmod 2199023255552 < 0
      · exact back_2_1 i p b w i0 i1 p0 p1 b0 b1 h (by omega) hr hT
      · exact back_2_2 i p b w i0 i1 p0 p1 b0 b1 h (by omega) (by omega) hT
  · by_cases hp : 0 ≤ p
    · exact back_3_0 i p b w i0 i1 p0 p1 b0 b1 h hp hT
    · by_cases hr : p.tmod 4398046511104 < 0
      · exact back_3_1 i p b w i0 i1 p0 p1 b0 b1 h (by omega) hr hT
      · exact back_3_2 i p b w i0 i1 p0 p1 b0 b1 h (by omega) (by omega) hT
  · by_cases hp : 0 ≤ p
    · exact back_4_0 i p b w i0 i1 p0 p1 b0 b1 h hp hT
    · by_cases hr : p.tmod 8796093022208 < 0
      · exact back_4_1 i p b w i0 i1 p0 p1 b0 b1 h (by omega) hr hT
      · exact back_4_2 i p b w i0 i1 p0 p1 b0 b1 h (by omega) (by omega) hT
  · by_cases hp : 0 ≤ p
    · exact back_5_0 i p b w i0 i1 p0 p1 b0 b1 h hp hT
    · by_cases hr : p.tmod 17592186044416 < 0
      · exact back_5_1 i p b w i0 i1 p0 p1 b0 b1 h (by omega) hr hT
      · exact back_5_2 i p b w i0 i1 p0 p1 b0 b1 h (by omega) (by omega) hT
end Go.Proofs.YtmlmchgigepleaaDoor
