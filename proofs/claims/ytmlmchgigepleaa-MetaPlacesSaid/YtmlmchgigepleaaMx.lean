/- The law MetaPlaces walked: true, and nothing that was there has turned. Conditions: the arguments are in their kinds' ranges. -/
import Derived.Test.YtmlmchgigepleaaMw
namespace Go.Proofs.Ytmlmchgigepleaa
open Go.RowKit
set_option linter.unusedVariables false
theorem refTailAt_any (b t m s i ss st j : Int) (w : World) (hk : lgOk b t m s = true) (j0 : 0 ≤ j) (j1 : j < 3) :
    Calls Try.prog 39 #[.agg #[.int .i64 b, .int .i64 t, .int .i64 m, .int .i64 s, .int .i32 i, .int .i32 ss, .int .i32 st], .int .i64 j] w fun e w' => e = .returned (.int .i64 (b + 3 * t + 8 * j)) ∧ Below w.heap.size w w' := by
  have hn := nbS_ok hk
  have hb := lgOk_bd hk
  go_enter Try.func39, Try.ntmps39
  go_wp2_with (go_at_call 38; refine (refM_any _ _ _ _ _ _ _ _).mono ?_; rintro e w' ⟨rfl, rfl⟩)
  go_ret
  exact ⟨rfl, by go_grown⟩
theorem refPartAt_any (b t m s i ss st j : Int) (w : World) (hk : lgOk b t m s = true) (j0 : 0 ≤ j) (j1 : j < 3) :
    Calls Try.prog 40 #[.agg #[.int .i64 b, .int .i64 t, .int .i64 m, .int .i64 s, .int .i32 i, .int .i32 ss, .int .i32 st], .int .i64 j] w fun e w' => e = .returned (.int .i64 (b + t * j)) ∧ Below w.heap.size w w' := by
  have hb := lgOk_bd hk
  have h1 : 0 ≤ t * j := Int.mul_nonneg (by omega) j0
  have h2 : t * j ≤ 8192 * j := Int.mul_le_mul_of_nonneg_right (by omega) j0
  go_enter Try.func40, Try.ntmps40
  go_wp2
  go_ret
  exact ⟨rfl, by go_grown⟩
set_option maxHeartbeats 8000000 in
theorem metaPlaces_no (b t m s i ss st p j : Int) (w : World) (hb0 : -9223372036854775808 ≤ b) (hb1 : b ≤ 9223372036854775807) (ht : t ≤ 9223372036854775807) (ht0 : -9223372036854775808 ≤ t) (hm0 : -9223372036854775808 ≤ m) (hk : lgOk b t m s = false) :
    Calls Try.prog 7 #[.agg #[.int .i64 b, .int .i64 t, .int .i64 m, .int .i64 s, .int .i32 i, .int .i32 ss, .int .i32 st], .int .i64 p, .int .i64 j] w fun e w' => e = .returned (.bool true) ∧ Below w.heap.size w w' := by
  have e1 := lgE_no hk
  have e2 : ∀ n, atS b t m s n = 0 := fun n => by unfold atS; rw [if_neg (by simp [hk])]
  have e3 : ∀ n j c d, oneS b t m s n j c d = 0 := fun n j c d => by unfold oneS; rw [if_neg (by simp [hk])]
  go_enter Try.func7, Try.ntmps7
  go_wp2_with (first
      | (go_at_call 22; refine (fixed14_any _).mono ?_; rintro e wf ⟨rfl, blf⟩; have hW := Lib.hid (show Below w.heap.size w wf from below_two (by go_grown) blf (by simp)); have hZ := Nat.lt_of_lt_of_le (show w.heap.size < (w.alloc (.cells #[.int .i64 b, .int .i64 t, .int .i64 m, .int .i64 s, .int .i32 i, .int .i32 ss, .int .i32 st] 41)).heap.size by simp) blf.size; have hL := Lib.hid ((LgAt.new w b t m s i ss st).keep blf (by simp)); clear blf; obtain ⟨k0, k1, k2, k3, k4, k5, k6⟩ := hL.out)
      | (go_at_call 27; refine (right_any _ _ _ _ _ _ _ _ hb0 hb1 hm0).mono ?_; rintro e wn ⟨rfl, bln⟩; replace hW := Lib.hid (below_two hW.out bln hW.out.size); replace hL := Lib.hid (hL.out.keep bln hZ); replace hZ := Nat.lt_of_lt_of_le hZ bln.size; clear bln k0 k1 k2 k3 k4 k5 k6; obtain ⟨k0, k1, k2, k3, k4, k5, k6⟩ := hL.out)
      | (go_at_call 28; refine (metaCheck_any _ _ _ _ _ _ _ _ hb0 hb1 ht hm0).mono ?_; rintro e wn ⟨rfl, bln⟩; replace hW := Lib.hid (below_two hW.out bln hW.out.size); replace hL := Lib.hid (hL.out.keep bln hZ); replace hZ := Nat.lt_of_lt_of_le hZ bln.size; clear bln k0 k1 k2 k3 k4 k5 k6; obtain ⟨k0, k1, k2, k3, k4, k5, k6⟩ := hL.out)
      | (go_at_call 29; refine (metaSize_any _ _ _ _ _ _ _ _ hb0 hb1 ht hm0 ht0).mono ?_; rintro e wn ⟨rfl, bln⟩; replace hW := Lib.hid (below_two hW.out bln hW.out.size); replace hL := Lib.hid (hL.out.keep bln hZ); replace hZ := Nat.lt_of_lt_of_le hZ bln.size; clear bln k0 k1 k2 k3 k4 k5 k6; obtain ⟨k0, k1, k2, k3, k4, k5, k6⟩ := hL.out)
      | (go_at_call 30; refine (tailAt_any _ _ _ _ _ _ _ _ _ hb0 hb1 ht hm0 ht0).mono ?_; rintro e wn ⟨rfl, bln⟩; replace hW := Lib.hid (below_two hW.out bln hW.out.size); replace hL := Lib.hid (hL.out.keep bln hZ); replace hZ := Nat.lt_of_lt_of_le hZ bln.size; clear bln k0 k1 k2 k3 k4 k5 k6; obtain ⟨k0, k1, k2, k3, k4, k5, k6⟩ := hL.out)
      | (go_at_call 31; refine (activeAt_any _ _ _ _ _ _ _ _ hb0 hb1 ht hm0 ht0).mono ?_; rintro e wn ⟨rfl, bln⟩; replace hW := Lib.hid (below_two hW.out bln hW.out.size); replace hL := Lib.hid (hL.out.keep bln hZ); replace hZ := Nat.lt_of_lt_of_le hZ bln.size; clear bln k0 k1 k2 k3 k4 k5 k6; obtain ⟨k0, k1, k2, k3, k4, k5, k6⟩ := hL.out)
      | (go_at_call 32; refine (limitAt_any _ _ _ _ _ _ _ _ hb0 hb1 ht hm0 ht0).mono ?_; rintro e wn ⟨rfl, bln⟩; replace hW := Lib.hid (below_two hW.out bln hW.out.size); replace hL := Lib.hid (hL.out.keep bln hZ); replace hZ := Nat.lt_of_lt_of_le hZ bln.size; clear bln k0 k1 k2 k3 k4 k5 k6; obtain ⟨k0, k1, k2, k3, k4, k5, k6⟩ := hL.out)
      | (go_at_call 33; refine (cleanAt_any _ _ _ _ _ _ _ _ hb0 hb1 ht hm0 ht0).mono ?_; rintro e wn ⟨rfl, bln⟩; replace hW := Lib.hid (below_two hW.out bln hW.out.size); replace hL := Lib.hid (hL.out.keep bln hZ); replace hZ := Nat.lt_of_lt_of_le hZ bln.size; clear bln k0 k1 k2 k3 k4 k5 k6; obtain ⟨k0, k1, k2, k3, k4, k5, k6⟩ := hL.out)
      | (go_at_call 34; refine (subAt_any _ _ _ _ _ _ _ _ _ hb0 hb1 ht hm0 ht0).mono ?_; rintro e wn ⟨rfl, bln⟩; replace hW := Lib.hid (below_two hW.out bln hW.out.size); replace hL := Lib.hid (hL.out.keep bln hZ); replace hZ := Nat.lt_of_lt_of_le hZ bln.size; clear bln k0 k1 k2 k3 k4 k5 k6; obtain ⟨k0, k1, k2, k3, k4, k5, k6⟩ := hL.out)
      | (go_at_call 35; refine (partAt_any _ _ _ _ _ _ _ _ _ hb0 hb1 ht hm0 ht0).mono ?_; rintro e wn ⟨rfl, bln⟩; replace hW := Lib.hid (below_two hW.out bln hW.out.size); replace hL := Lib.hid (hL.out.keep bln hZ); replace hZ := Nat.lt_of_lt_of_le hZ bln.size; clear bln k0 k1 k2 k3 k4 k5 k6; obtain ⟨k0, k1, k2, k3, k4, k5, k6⟩ := hL.out)
      | (go_at_call 36; refine (maxMessage_any _ _ _ _ _ _ _ _ hb0 hb1 ht hm0 ht0).mono ?_; rintro e wn ⟨rfl, bln⟩; replace hW := Lib.hid (below_two hW.out bln hW.out.size); replace hL := Lib.hid (hL.out.keep bln hZ); replace hZ := Nat.lt_of_lt_of_le hZ bln.size; clear bln k0 k1 k2 k3 k4 k5 k6; obtain ⟨k0, k1, k2, k3, k4, k5, k6⟩ := hL.out)
      | (go_at_call 37; refine (window_any _ _ _ _ _ _ _ _ hb0 hb1 ht hm0 ht0).mono ?_; rintro e wn ⟨rfl, bln⟩; replace hW := Lib.hid (below_two hW.out bln hW.out.size); replace hL := Lib.hid (hL.out.keep bln hZ); replace hZ := Nat.lt_of_lt_of_le hZ bln.size; clear bln k0 k1 k2 k3 k4 k5 k6; obtain ⟨k0, k1, k2, k3, k4, k5, k6⟩ := hL.out)
      | (go_at_call 38; refine (refM_any _ _ _ _ _ _ _ _).mono ?_; rintro e wn ⟨rfl, bln⟩; have bln2 : Below _ _ wn := bln ▸ (Below.refl _ _).alloc (Nat.le_refl _) _; clear bln; replace hW := Lib.hid (below_two hW.out bln2 hW.out.size); replace hL := Lib.hid (hL.out.keep bln2 hZ); replace hZ := Nat.lt_of_lt_of_le hZ bln2.size; clear bln2 k0 k1 k2 k3 k4 k5 k6; obtain ⟨k0, k1, k2, k3, k4, k5, k6⟩ := hL.out))
  go_ret
  exact ⟨rfl, hW.out⟩
theorem below_past {B C : Nat} {w w0 w1 w2 : World} (h : Below B w w1) (hb : Below C w0 w2) (he : w0.heap = w1.heap) (ho : w0.os = w1.os) (ht : w0.tape = w1.tape) (hu : w0.output = w1.output) (hB : B ≤ C) : Below B w w2 :=
  ⟨by rw [hb.os, ho, h.os], by rw [hb.tape, ht, h.tape], by rw [hb.output, hu, h.output], Nat.le_trans h.size (by have := hb.size; rw [he] at this; exact this), fun k hk => by rw [hb.block k (by omega), he, h.block k hk]⟩
end Go.Proofs.Ytmlmchgigepleaa
