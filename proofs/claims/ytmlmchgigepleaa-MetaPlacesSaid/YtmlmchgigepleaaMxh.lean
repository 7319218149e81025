/- The law MetaPlaces walked, in parts: true, and nothing that was there has turned. Conditions: the arguments are in their kinds' ranges. -/
import Derived.Test.YtmlmchgigepleaaMx
namespace Go.Proofs.Ytmlmchgigepleaa
open Go.RowKit
set_option linter.unusedVariables false
set_option maxRecDepth 100000 in
set_option maxHeartbeats 8000000 in
theorem metaPlaces_hy (b t m s i ss st p j : Int) (w : World) (hb0 : -9223372036854775808 ≤ b) (hb1 : b ≤ 9223372036854775807) (ht : t ≤ 9223372036854775807) (ht0 : -9223372036854775808 ≤ t) (hm0 : -9223372036854775808 ≤ m) (hk : lgOk b t m s = true) (pn : 3 ≤ p) (j0 : 0 ≤ j) (j1 : j < s) :
    Calls Try.prog 7 #[.agg #[.int .i64 b, .int .i64 t, .int .i64 m, .int .i64 s, .int .i32 i, .int .i32 ss, .int .i32 st], .int .i64 p, .int .i64 j] w fun e w' => e = .returned (.bool true) ∧ Below w.heap.size w w' := by
  obtain ⟨t0, t1, m0, m1, mm, s0, s1, b0, b8, b1, hT⟩ := lgOk_bd hk
  have e1 := lgE_ok hk
  have e2 : ∀ n, atS b t m s n = n := fun n => by unfold atS; rw [if_pos hk]
  have e4 := nbS_ok hk
  have e5 := szL_ok hk
  have e6 : t.tdiv 8 = t / 8 := Int.tdiv_eq_ediv_of_nonneg (by omega)
  have e7 : t.tdiv 2 = t / 2 := Int.tdiv_eq_ediv_of_nonneg (by omega)
  have v1 : IntKind.i64.wrap (3 * t) = 3 * t := IntWalk.i64_in _ ⟨by omega, by omega⟩
  have v2 : IntKind.i64.wrap (3 * t + 128) = 3 * t + 128 := IntWalk.i64_in _ ⟨by omega, by omega⟩
  have v3 : IntKind.i64.wrap (b + 3 * t + 24) = b + 3 * t + 24 := IntWalk.i64_in _ ⟨by omega, by omega⟩
  have v4 : IntKind.i64.wrap (b + 3 * t + 32) = b + 3 * t + 32 := IntWalk.i64_in _ ⟨by omega, by omega⟩
  have v5 : IntKind.i64.wrap (b + 3 * t + 40) = b + 3 * t + 40 := IntWalk.i64_in _ ⟨by omega, by omega⟩
  have v7 : IntKind.i64.wrap (t / 8) = t / 8 := IntWalk.i64_in _ ⟨by omega, by omega⟩
  have v8 : IntKind.i64.wrap (t / 2) = t / 2 := IntWalk.i64_in _ ⟨by omega, by omega⟩
  have v6 : IntKind.i64.wrap (b + 3 * t + 48) = b + 3 * t + 48 := IntWalk.i64_in _ ⟨by omega, by omega⟩
  have o1 : oneS b t m s (b + 3 * t) p 3 8 = -1 := by unfold oneS; rw [if_pos hk]; rw [if_neg (by omega)]
  have o2 : oneS b t m s b p 3 t = -1 := by unfold oneS; rw [if_pos hk]; rw [if_neg (by omega)]
  have o3 : oneS b t m s (b + 3 * t + 48) j s 8 = b + 3 * t + 48 + 8 * j := by unfold oneS; rw [if_pos hk]; rw [if_pos ⟨j0, j1⟩]; unfold wrap64; omega
  go_enter Try.func7, Try.ntmps7
  go_wp2_with (first
      | (go_at_call 22; refine (fixed14_any _).mono ?_; rintro e wf ⟨rfl, blf⟩; have hW := Lib.hid (show Below w.heap.size w wf from below_two (by go_grown) blf (by simp)); have hZ := Nat.lt_of_lt_of_le (show w.heap.size < (w.alloc (.cells #[.int .i64 b, .int .i64 t, .int .i64 m, .int .i64 s, .int .i32 i, .int .i32 ss, .int .i32 st] 41)).heap.size by simp) blf.size; have hL := Lib.hid ((LgAt.new w b t m s i ss st).keep blf (by simp)); clear blf; obtain ⟨k0, k1, k2, k3, k4, k5, k6⟩ := hL.out)
      | (go_at_call 27; refine (right_any _ _ _ _ _ _ _ _ hb0 hb1 hm0).mono ?_; rintro e wn ⟨rfl, bln⟩; replace hW := Lib.hid (below_two hW.out bln hW.out.size); replace hL := Lib.hid (hL.out.keep bln hZ); replace hZ := Nat.lt_of_lt_of_le hZ bln.size; clear bln k0 k1 k2 k3 k4 k5 k6; obtain ⟨k0, k1, k2, k3, k4, k5, k6⟩ := hL.out)
      | (go_at_call 28; refine (metaCheck_any _ _ _ _ _ _ _ _ hb0 hb1 ht hm0).mono ?_; rintro e wn ⟨rfl, bln⟩; replace hW := Lib.hid (below_two hW.out bln hW.out.size); replace hL := Lib.hid (hL.out.keep bln hZ); replace hZ := Nat.lt_of_lt_of_le hZ bln.size; clear bln k0 k1 k2 k3 k4 k5 k6; obtain ⟨k0, k1, k2, k3, k4, k5, k6⟩ := hL.out)
      | (go_at_call 29; refine (metaSize_any _ _ _ _ _ _ _ _ hb0 hb1 ht hm0 ht0).mono ?_; rintro e wn ⟨rfl, bln⟩; replace hW := Lib.hid (below_two hW.out bln hW.out.size); replace hL := Lib.hid (hL.out.keep bln hZ); replace hZ := Nat.lt_of_lt_of_le hZ bln.size; clear bln k0 k1 k2 k3 k4 k5 k6; obtain ⟨k0, k1, k2, k3, k4, k5, k6⟩ := hL.out)
      | (go_at_call 30; refine (tailAt_any _ _ _ _ _ _ _ _ _ hb0 hb1 ht hm0 ht0).mono ?_; rintro e wn ⟨rfl, bln⟩; replace hW := Lib.hid (below_two hW.out bln hW.out.size); replace hL := Lib.hid (hL.out.keep bln hZ); replace hZ := Nat.lt_of_lt_of_le hZ bln.size; clear bln k0 k1 k2 k3 k4 k5 k6; obtain ⟨k0, k1, k2, k3, k4, k5, k6⟩ := hL.out)
      | (go_at_call 31; refine (activeAt_any _ _ _ _ _ _ _ _ hb0 hb1 ht hm0 ht0).mono ?_; rintro e wn ⟨rfl, bln⟩; replace hW := Lib.hid (below_two hW.out bln hW.out.size); replace hL := Lib.hid (hL.out.keep bln hZ); replace hZ := Nat.lt_of_lt_of_le hZ bln.size; clear bln k0 k1 k2 k3 k4 k5 k6; obtain ⟨k0, k1, k2, k3, k4, k5, k6⟩ := hL.out)
      | (go_at_call 32; refine (limitAt_any _ _ _ _ _ _ _ _ hb0 hb1 ht hm0 ht0).mono ?_; rintro e wn ⟨rfl, bln⟩; replace hW := Lib.hid (below_two hW.out bln hW.out.size); replace hL := Lib.hid (hL.out.keep bln hZ); replace hZ := Nat.lt_of_lt_of_le hZ bln.size; clear bln k0 k1 k2 k3 k4 k5 k6; obtain ⟨k0, k1, k2, k3, k4, k5, k6⟩ := hL.out)
      | (go_at_call 33; refine (cleanAt_any _ _ _ _ _ _ _ _ hb0 hb1 ht hm0 ht0).mono ?_; rintro e wn ⟨rfl, bln⟩; replace hW := Lib.hid (below_two hW.out bln hW.out.size); replace hL := Lib.hid (hL.out.keep bln hZ); replace hZ := Nat.lt_of_lt_of_le hZ bln.size; clear bln k0 k1 k2 k3 k4 k5 k6; obtain ⟨k0, k1, k2, k3, k4, k5, k6⟩ := hL.out)
      | (go_at_call 34; refine (subAt_any _ _ _ _ _ _ _ _ _ hb0 hb1 ht hm0 ht0).mono ?_; rintro e wn ⟨rfl, bln⟩; replace hW := Lib.hid (below_two hW.out bln hW.out.size); replace hL := Lib.hid (hL.out.keep bln hZ); replace hZ := Nat.lt_of_lt_of_le hZ bln.size; clear bln k0 k1 k2 k3 k4 k5 k6; obtain ⟨k0, k1, k2, k3, k4, k5, k6⟩ := hL.out)
      | (go_at_call 35; refine (partAt_any _ _ _ _ _ _ _ _ _ hb0 hb1 ht hm0 ht0).mono ?_; rintro e wn ⟨rfl, bln⟩; replace hW := Lib.hid (below_two hW.out bln hW.out.size); replace hL := Lib.hid (hL.out.keep bln hZ); replace hZ := Nat.lt_of_lt_of_le hZ bln.size; clear bln k0 k1 k2 k3 k4 k5 k6; obtain ⟨k0, k1, k2, k3, k4, k5, k6⟩ := hL.out)
      | (go_at_call 36; refine (maxMessage_any _ _ _ _ _ _ _ _ hb0 hb1 ht hm0 ht0).mono ?_; rintro e wn ⟨rfl, bln⟩; replace hW := Lib.hid (below_two hW.out bln hW.out.size); replace hL := Lib.hid (hL.out.keep bln hZ); replace hZ := Nat.lt_of_lt_of_le hZ bln.size; clear bln k0 k1 k2 k3 k4 k5 k6; obtain ⟨k0, k1, k2, k3, k4, k5, k6⟩ := hL.out)
      | (go_at_call 37; refine (window_any _ _ _ _ _ _ _ _ hb0 hb1 ht hm0 ht0).mono ?_; rintro e wn ⟨rfl, bln⟩; replace hW := Lib.hid (below_two hW.out bln hW.out.size); replace hL := Lib.hid (hL.out.keep bln hZ); replace hZ := Nat.lt_of_lt_of_le hZ bln.size; clear bln k0 k1 k2 k3 k4 k5 k6; obtain ⟨k0, k1, k2, k3, k4, k5, k6⟩ := hL.out)
      | (go_at_call 38; refine (refM_any _ _ _ _ _ _ _ _).mono ?_; rintro e wn ⟨rfl, bln⟩; have bln2 : Below _ _ wn := bln ▸ (Below.refl _ _).alloc (Nat.le_refl _) _; clear bln; replace hW := Lib.hid (below_two hW.out bln2 hW.out.size); replace hL := Lib.hid (hL.out.keep bln2 hZ); replace hZ := Nat.lt_of_lt_of_le hZ bln2.size; clear bln2 k0 k1 k2 k3 k4 k5 k6; obtain ⟨k0, k1, k2, k3, k4, k5, k6⟩ := hL.out))
  try simp only [List.append_eq, List.cons_append, List.nil_append]
  go_region_held3 (fun w' => w'.cell? ⟨w.heap.size, 0, none⟩ = some (.int .i64 b) ∧ w'.cell? ⟨w.heap.size, 1, none⟩ = some (.int .i64 t) ∧ w'.cell? ⟨w.heap.size, 2, none⟩ = some (.int .i64 m) ∧ w'.cell? ⟨w.heap.size, 3, none⟩ = some (.int .i64 s) ∧ w'.cell? ⟨w.heap.size, 4, none⟩ = some (.int .i32 i) ∧ w'.cell? ⟨w.heap.size, 5, none⟩ = some (.int .i32 ss) ∧ w'.cell? ⟨w.heap.size, 6, none⟩ = some (.int .i32 st)) (go_keep)
    ((first
      | (go_at_call 28; refine (metaCheck_any _ _ _ _ _ _ _ _ hb0 hb1 ht hm0).mono ?_; rintro e wn ⟨rfl, bln⟩; have hcn := fun o => bln.cell (p := ⟨w.heap.size, o, none⟩) hZ; replace hW := Lib.hid (below_past hW.out bln rfl rfl rfl rfl hW.out.size); replace hZ := Nat.lt_of_lt_of_le hZ bln.size; clear bln)
      | (go_at_call 29; refine (metaSize_any _ _ _ _ _ _ _ _ hb0 hb1 ht hm0 ht0).mono ?_; rintro e wn ⟨rfl, bln⟩; have hcn := fun o => bln.cell (p := ⟨w.heap.size, o, none⟩) hZ; replace hW := Lib.hid (below_past hW.out bln rfl rfl rfl rfl hW.out.size); replace hZ := Nat.lt_of_lt_of_le hZ bln.size; clear bln)
      | (go_at_call 30; refine (tailAt_any _ _ _ _ _ _ _ _ _ hb0 hb1 ht hm0 ht0).mono ?_; rintro e wn ⟨rfl, bln⟩; have hcn := fun o => bln.cell (p := ⟨w.heap.size, o, none⟩) hZ; replace hW := Lib.hid (below_past hW.out bln rfl rfl rfl rfl hW.out.size); replace hZ := Nat.lt_of_lt_of_le hZ bln.size; clear bln)
      | (go_at_call 31; refine (activeAt_any _ _ _ _ _ _ _ _ hb0 hb1 ht hm0 ht0).mono ?_; rintro e wn ⟨rfl, bln⟩; have hcn := fun o => bln.cell (p := ⟨w.heap.size, o, none⟩) hZ; replace hW := Lib.hid (below_past hW.out bln rfl rfl rfl rfl hW.out.size); replace hZ := Nat.lt_of_lt_of_le hZ bln.size; clear bln)
      | (go_at_call 32; refine (limitAt_any _ _ _ _ _ _ _ _ hb0 hb1 ht hm0 ht0).mono ?_; rintro e wn ⟨rfl, bln⟩; have hcn := fun o => bln.cell (p := ⟨w.heap.size, o, none⟩) hZ; replace hW := Lib.hid (below_past hW.out bln rfl rfl rfl rfl hW.out.size); replace hZ := Nat.lt_of_lt_of_le hZ bln.size; clear bln)
      | (go_at_call 33; refine (cleanAt_any _ _ _ _ _ _ _ _ hb0 hb1 ht hm0 ht0).mono ?_; rintro e wn ⟨rfl, bln⟩; have hcn := fun o => bln.cell (p := ⟨w.heap.size, o, none⟩) hZ; replace hW := Lib.hid (below_past hW.out bln rfl rfl rfl rfl hW.out.size); replace hZ := Nat.lt_of_lt_of_le hZ bln.size; clear bln)
      | (go_at_call 34; refine (subAt_any _ _ _ _ _ _ _ _ _ hb0 hb1 ht hm0 ht0).mono ?_; rintro e wn ⟨rfl, bln⟩; have hcn := fun o => bln.cell (p := ⟨w.heap.size, o, none⟩) hZ; replace hW := Lib.hid (below_past hW.out bln rfl rfl rfl rfl hW.out.size); replace hZ := Nat.lt_of_lt_of_le hZ bln.size; clear bln)
      | (go_at_call 35; refine (partAt_any _ _ _ _ _ _ _ _ _ hb0 hb1 ht hm0 ht0).mono ?_; rintro e wn ⟨rfl, bln⟩; have hcn := fun o => bln.cell (p := ⟨w.heap.size, o, none⟩) hZ; replace hW := Lib.hid (below_past hW.out bln rfl rfl rfl rfl hW.out.size); replace hZ := Nat.lt_of_lt_of_le hZ bln.size; clear bln)
      | (go_at_call 36; refine (maxMessage_any _ _ _ _ _ _ _ _ hb0 hb1 ht hm0 ht0).mono ?_; rintro e wn ⟨rfl, bln⟩; have hcn := fun o => bln.cell (p := ⟨w.heap.size, o, none⟩) hZ; replace hW := Lib.hid (below_past hW.out bln rfl rfl rfl rfl hW.out.size); replace hZ := Nat.lt_of_lt_of_le hZ bln.size; clear bln)
      | (go_at_call 37; refine (window_any _ _ _ _ _ _ _ _ hb0 hb1 ht hm0 ht0).mono ?_; rintro e wn ⟨rfl, bln⟩; have hcn := fun o => bln.cell (p := ⟨w.heap.size, o, none⟩) hZ; replace hW := Lib.hid (below_past hW.out bln rfl rfl rfl rfl hW.out.size); replace hZ := Nat.lt_of_lt_of_le hZ bln.size; clear bln)))
  go_wp2
  go_ret
  exact ⟨rfl, hW.out⟩
set_option maxRecDepth 100000 in
set_option maxHeartbeats 8000000 in
theorem metaPlaces_hl (b t m s i ss st p j : Int) (w : World) (hb0 : -9223372036854775808 ≤ b) (hb1 : b ≤ 9223372036854775807) (ht : t ≤ 9223372036854775807) (ht0 : -9223372036854775808 ≤ t) (hm0 : -9223372036854775808 ≤ m) (hk : lgOk b t m s = true) (pn : 3 ≤ p) (jn : j < 0) :
    Calls Try.prog 7 #[.agg #[.int .i64 b, .int .i64 t, .int .i64 m, .int .i64 s, .int .i32 i, .int .i32 ss, .int .i32 st], .int .i64 p, .int .i64 j] w fun e w' => e = .returned (.bool true) ∧ Below w.heap.size w w' := by
  obtain ⟨t0, t1, m0, m1, mm, s0, s1, b0, b8, b1, hT⟩ := lgOk_bd hk
  have e1 := lgE_ok hk
  have e2 : ∀ n, atS b t m s n = n := fun n => by unfold atS; rw [if_pos hk]
  have e4 := nbS_ok hk
  have e5 := szL_ok hk
  have e6 : t.tdiv 8 = t / 8 := Int.tdiv_eq_ediv_of_nonneg (by omega)
  have e7 : t.tdiv 2 = t / 2 := Int.tdiv_eq_ediv_of_nonneg (by omega)
  have v1 : IntKind.i64.wrap (3 * t) = 3 * t := IntWalk.i64_in _ ⟨by omega, by omega⟩
  have v2 : IntKind.i64.wrap (3 * t + 128) = 3 * t + 128 := IntWalk.i64_in _ ⟨by omega, by omega⟩
  have v3 : IntKind.i64.wrap (b + 3 * t + 24) = b + 3 * t + 24 := IntWalk.i64_in _ ⟨by omega, by omega⟩
  have v4 : IntKind.i64.wrap (b + 3 * t + 32) = b + 3 * t + 32 := IntWalk.i64_in _ ⟨by omega, by omega⟩
  have v5 : IntKind.i64.wrap (b + 3 * t + 40) = b + 3 * t + 40 := IntWalk.i64_in _ ⟨by omega, by omega⟩
  have v7 : IntKind.i64.wrap (t / 8) = t / 8 := IntWalk.i64_in _ ⟨by omega, by omega⟩
  have v8 : IntKind.i64.wrap (t / 2) = t / 2 := IntWalk.i64_in _ ⟨by omega, by omega⟩
  have v6 : IntKind.i64.wrap (b + 3 * t + 48) = b + 3 * t + 48 := IntWalk.i64_in _ ⟨by omega, by omega⟩
  have o1 : oneS b t m s (b + 3 * t) p 3 8 = -1 := by unfold oneS; rw [if_pos hk]; rw [if_neg (by omega)]
  have o2 : oneS b t m s b p 3 t = -1 := by unfold oneS; rw [if_pos hk]; rw [if_neg (by omega)]
  have o3 : oneS b t m s (b + 3 * t + 48) j s 8 = -1 := by unfold oneS; rw [if_pos hk]; rw [if_neg (by omega)]
  go_enter Try.func7, Try.ntmps7
  go_wp2_with (first
      | (go_at_call 22; refine (fixed14_any _).mono ?_; rintro e wf ⟨rfl, blf⟩; have hW := Lib.hid (show Below w.heap.size w wf from below_two (by go_grown) blf (by simp)); have hZ := Nat.lt_of_lt_of_le (show w.heap.size < (w.alloc (.cells #[.int .i64 b, .int .i64 t, .int .i64 m, .int .i64 s, .int .i32 i, .int .i32 ss, .int .i32 st] 41)).heap.size by simp) blf.size; have hL := Lib.hid ((LgAt.new w b t m s i ss st).keep blf (by simp)); clear blf; obtain ⟨k0, k1, k2, k3, k4, k5, k6⟩ := hL.out)
      | (go_at_call 27; refine (right_any _ _ _ _ _ _ _ _ hb0 hb1 hm0).mono ?_; rintro e wn ⟨rfl, bln⟩; replace hW := Lib.hid (below_two hW.out bln hW.out.size); replace hL := Lib.hid (hL.out.keep bln hZ); replace hZ := Nat.lt_of_lt_of_le hZ bln.size; clear bln k0 k1 k2 k3 k4 k5 k6; obtain ⟨k0, k1, k2, k3, k4, k5, k6⟩ := hL.out)
      | (go_at_call 28; refine (metaCheck_any _ _ _ _ _ _ _ _ hb0 hb1 ht hm0).mono ?_; rintro e wn ⟨rfl, bln⟩; replace hW := Lib.hid (below_two hW.out bln hW.out.size); replace hL := Lib.hid (hL.out.keep bln hZ); replace hZ := Nat.lt_of_lt_of_le hZ bln.size; clear bln k0 k1 k2 k3 k4 k5 k6; obtain ⟨k0, k1, k2, k3, k4, k5, k6⟩ := hL.out)
      | (go_at_call 29; refine (metaSize_any _ _ _ _ _ _ _ _ hb0 hb1 ht hm0 ht0).mono ?_; rintro e wn ⟨rfl, bln⟩; replace hW := Lib.hid (below_two hW.out bln hW.out.size); replace hL := Lib.hid (hL.out.keep bln hZ); replace hZ := Nat.lt_of_lt_of_le hZ bln.size; clear bln k0 k1 k2 k3 k4 k5 k6; obtain ⟨k0, k1, k2, k3, k4, k5, k6⟩ := hL.out)
      | (go_at_call 30; refine (tailAt_any _ _ _ _ _ _ _ _ _ hb0 hb1 ht hm0 ht0).mono ?_; rintro e wn ⟨rfl, bln⟩; replace hW := Lib.hid (below_two hW.out bln hW.out.size); replace hL := Lib.hid (hL.out.keep bln hZ); replace hZ := Nat.lt_of_lt_of_le hZ bln.size; clear bln k0 k1 k2 k3 k4 k5 k6; obtain ⟨k0, k1, k2, k3, k4, k5, k6⟩ := hL.out)
      | (go_at_call 31; refine (activeAt_any _ _ _ _ _ _ _ _ hb0 hb1 ht hm0 ht0).mono ?_; rintro e wn ⟨rfl, bln⟩; replace hW := Lib.hid (below_two hW.out bln hW.out.size); replace hL := Lib.hid (hL.out.keep bln hZ); replace hZ := Nat.lt_of_lt_of_le hZ bln.size; clear bln k0 k1 k2 k3 k4 k5 k6; obtain ⟨k0, k1, k2, k3, k4, k5, k6⟩ := hL.out)
      | (go_at_call 32; refine (limitAt_any _ _ _ _ _ _ _ _ hb0 hb1 ht hm0 ht0).mono ?_; rintro e wn ⟨rfl, bln⟩; replace hW := Lib.hid (below_two hW.out bln hW.out.size); replace hL := Lib.hid (hL.out.keep bln hZ); replace hZ := Nat.lt_of_lt_of_le hZ bln.size; clear bln k0 k1 k2 k3 k4 k5 k6; obtain ⟨k0, k1, k2, k3, k4, k5, k6⟩ := hL.out)
      | (go_at_call 33; refine (cleanAt_any _ _ _ _ _ _ _ _ hb0 hb1 ht hm0 ht0).mono ?_; rintro e wn ⟨rfl, bln⟩; replace hW := Lib.hid (below_two hW.out bln hW.out.size); replace hL := Lib.hid (hL.out.keep bln hZ); replace hZ := Nat.lt_of_lt_of_le hZ bln.size; clear bln k0 k1 k2 k3 k4 k5 k6; obtain ⟨k0, k1, k2, k3, k4, k5, k6⟩ := hL.out)
      | (go_at_call 34; refine (subAt_any _ _ _ _ _ _ _ _ _ hb0 hb1 ht hm0 ht0).mono ?_; rintro e wn ⟨rfl, bln⟩; replace hW := Lib.hid (below_two hW.out bln hW.out.size); replace hL := Lib.hid (hL.out.keep bln hZ); replace hZ := Nat.lt_of_lt_of_le hZ bln.size; clear bln k0 k1 k2 k3 k4 k5 k6; obtain ⟨k0, k1, k2, k3, k4, k5, k6⟩ := hL.out)
      | (go_at_call 35; refine (partAt_any _ _ _ _ _ _ _ _ _ hb0 hb1 ht hm0 ht0).mono ?_; rintro e wn ⟨rfl, bln⟩; replace hW := Lib.hid (below_two hW.out bln hW.out.size); replace hL := Lib.hid (hL.out.keep bln hZ); replace hZ := Nat.lt_of_lt_of_le hZ bln.size; clear bln k0 k1 k2 k3 k4 k5 k6; obtain ⟨k0, k1, k2, k3, k4, k5, k6⟩ := hL.out)
      | (go_at_call 36; refine (maxMessage_any _ _ _ _ _ _ _ _ hb0 hb1 ht hm0 ht0).mono ?_; rintro e wn ⟨rfl, bln⟩; replace hW := Lib.hid (below_two hW.out bln hW.out.size); replace hL := Lib.hid (hL.out.keep bln hZ); replace hZ := Nat.lt_of_lt_of_le hZ bln.size; clear bln k0 k1 k2 k3 k4 k5 k6; obtain ⟨k0, k1, k2, k3, k4, k5, k6⟩ := hL.out)
      | (go_at_call 37; refine (window_any _ _ _ _ _ _ _ _ hb0 hb1 ht hm0 ht0).mono ?_; rintro e wn ⟨rfl, bln⟩; replace hW := Lib.hid (below_two hW.out bln hW.out.size); replace hL := Lib.hid (hL.out.keep bln hZ); replace hZ := Nat.lt_of_lt_of_le hZ bln.size; clear bln k0 k1 k2 k3 k4 k5 k6; obtain ⟨k0, k1, k2, k3, k4, k5, k6⟩ := hL.out)
      | (go_at_call 38; refine (refM_any _ _ _ _ _ _ _ _).mono ?_; rintro e wn ⟨rfl, bln⟩; have bln2 : Below _ _ wn := bln ▸ (Below.refl _ _).alloc (Nat.le_refl _) _; clear bln; replace hW := Lib.hid (below_two hW.out bln2 hW.out.size); replace hL := Lib.hid (hL.out.keep bln2 hZ); replace hZ := Nat.lt_of_lt_of_le hZ bln2.size; clear bln2 k0 k1 k2 k3 k4 k5 k6; obtain ⟨k0, k1, k2, k3, k4, k5, k6⟩ := hL.out))
  try simp only [List.append_eq, List.cons_append, List.nil_append]
  go_region_held3 (fun w' => w'.cell? ⟨w.heap.size, 0, none⟩ = some (.int .i64 b) ∧ w'.cell? ⟨w.heap.size, 1, none⟩ = some (.int .i64 t) ∧ w'.cell? ⟨w.heap.size, 2, none⟩ = some (.int .i64 m) ∧ w'.cell? ⟨w.heap.size, 3, none⟩ = some (.int .i64 s) ∧ w'.cell? ⟨w.heap.size, 4, none⟩ = some (.int .i32 i) ∧ w'.cell? ⟨w.heap.size, 5, none⟩ = some (.int .i32 ss) ∧ w'.cell? ⟨w.heap.size, 6, none⟩ = some (.int .i32 st)) (go_keep)
    ((first
      | (go_at_call 28; refine (metaCheck_any _ _ _ _ _ _ _ _ hb0 hb1 ht hm0).mono ?_; rintro e wn ⟨rfl, bln⟩; have hcn := fun o => bln.cell (p := ⟨w.heap.size, o, none⟩) hZ; replace hW := Lib.hid (below_past hW.out bln rfl rfl rfl rfl hW.out.size); replace hZ := Nat.lt_of_lt_of_le hZ bln.size; clear bln)
      | (go_at_call 29; refine (metaSize_any _ _ _ _ _ _ _ _ hb0 hb1 ht hm0 ht0).mono ?_; rintro e wn ⟨rfl, bln⟩; have hcn := fun o => bln.cell (p := ⟨w.heap.size, o, none⟩) hZ; replace hW := Lib.hid (below_past hW.out bln rfl rfl rfl rfl hW.out.size); replace hZ := Nat.lt_of_lt_of_le hZ bln.size; clear bln)
      | (go_at_call 30; refine (tailAt_any _ _ _ _ _ _ _ _ _ hb0 hb1 ht hm0 ht0).mono ?_; rintro e wn ⟨rfl, bln⟩; have hcn := fun o => bln.cell (p := ⟨w.heap.size, o, none⟩) hZ; replace hW := Lib.hid (below_past hW.out bln rfl rfl rfl rfl hW.out.size); replace hZ := Nat.lt_of_lt_of_le hZ bln.size; clear bln)
      | (go_at_call 31; refine (activeAt_any _ _ _ _ _ _ _ _ hb0 hb1 ht hm0 ht0).mono ?_; rintro e wn ⟨rfl, bln⟩; have hcn := fun o => bln.cell (p := ⟨w.heap.size, o, none⟩) hZ; replace hW := Lib.hid (below_past hW.out bln rfl rfl rfl rfl hW.out.size); replace hZ := Nat.lt_of_lt_of_le hZ bln.size; clear bln)
      | (go_at_call 32; refine (limitAt_any _ _ _ _ _ _ _ _ hb0 hb1 ht hm0 ht0).mono ?_; rintro e wn ⟨rfl, bln⟩; have hcn := fun o => bln.cell (p := ⟨w.heap.size, o, none⟩) hZ; replace hW := Lib.hid (below_past hW.out bln rfl rfl rfl rfl hW.out.size); replace hZ := Nat.lt_of_lt_of_le hZ bln.size; clear bln)
      | (go_at_call 33; refine (cleanAt_any _ _ _ _ _ _ _ _ hb0 hb1 ht hm0 ht0).mono ?_; rintro e wn ⟨rfl, bln⟩; have hcn := fun o => bln.cell (p := ⟨w.heap.size, o, none⟩) hZ; replace hW := Lib.hid (below_past hW.out bln rfl rfl rfl rfl hW.out.size); replace hZ := Nat.lt_of_lt_of_le hZ bln.size; clear bln)
      | (go_at_call 34; refine (subAt_any _ _ _ _ _ _ _ _ _ hb0 hb1 ht hm0 ht0).mono ?_; rintro e wn ⟨rfl, bln⟩; have hcn := fun o => bln.cell (p := ⟨w.heap.size, o, none⟩) hZ; replace hW := Lib.hid (below_past hW.out bln rfl rfl rfl rfl hW.out.size); replace hZ := Nat.lt_of_lt_of_le hZ bln.size; clear bln)
      | (go_at_call 35; refine (partAt_any _ _ _ _ _ _ _ _ _ hb0 hb1 ht hm0 ht0).mono ?_; rintro e wn ⟨rfl, bln⟩; have hcn := fun o => bln.cell (p := ⟨w.heap.size, o, none⟩) hZ; replace hW := Lib.hid (below_past hW.out bln rfl rfl rfl rfl hW.out.size); replace hZ := Nat.lt_of_lt_of_le hZ bln.size; clear bln)
      | (go_at_call 36; refine (maxMessage_any _ _ _ _ _ _ _ _ hb0 hb1 ht hm0 ht0).mono ?_; rintro e wn ⟨rfl, bln⟩; have hcn := fun o => bln.cell (p := ⟨w.heap.size, o, none⟩) hZ; replace hW := Lib.hid (below_past hW.out bln rfl rfl rfl rfl hW.out.size); replace hZ := Nat.lt_of_lt_of_le hZ bln.size; clear bln)
      | (go_at_call 37; refine (window_any _ _ _ _ _ _ _ _ hb0 hb1 ht hm0 ht0).mono ?_; rintro e wn ⟨rfl, bln⟩; have hcn := fun o => bln.cell (p := ⟨w.heap.size, o, none⟩) hZ; replace hW := Lib.hid (below_past hW.out bln rfl rfl rfl rfl hW.out.size); replace hZ := Nat.lt_of_lt_of_le hZ bln.size; clear bln)))
  go_wp2
  go_ret
  exact ⟨rfl, hW.out⟩
set_option maxRecDepth 100000 in
set_option maxHeartbeats 8000000 in
theorem metaPlaces_hh (b t m s i ss st p j : Int) (w : World) (hb0 : -9223372036854775808 ≤ b) (hb1 : b ≤ 9223372036854775807) (ht : t ≤ 9223372036854775807) (ht0 : -9223372036854775808 ≤ t) (hm0 : -9223372036854775808 ≤ m) (hk : lgOk b t m s = true) (pn : 3 ≤ p) (jn : s ≤ j) :
    Calls Try.prog 7 #[.agg #[.int .i64 b, .int .i64 t, .int .i64 m, .int .i64 s, .int .i32 i, .int .i32 ss, .int .i32 st], .int .i64 p, .int .i64 j] w fun e w' => e = .returned (.bool true) ∧ Below w.heap.size w w' := by
  obtain ⟨t0, t1, m0, m1, mm, s0, s1, b0, b8, b1, hT⟩ := lgOk_bd hk
  have e1 := lgE_ok hk
  have e2 : ∀ n, atS b t m s n = n := fun n => by unfold atS; rw [if_pos hk]
  have e4 := nbS_ok hk
  have e5 := szL_ok hk
  have e6 : t.tdiv 8 = t / 8 := Int.tdiv_eq_ediv_of_nonneg (by omega)
  have e7 : t.tdiv 2 = t / 2 := Int.tdiv_eq_ediv_of_nonneg (by omega)
  have v1 : IntKind.i64.wrap (3 * t) = 3 * t := IntWalk.i64_in _ ⟨by omega, by omega⟩
  have v2 : IntKind.i64.wrap (3 * t + 128) = 3 * t + 128 := IntWalk.i64_in _ ⟨by omega, by omega⟩
  have v3 : IntKind.i64.wrap (b + 3 * t + 24) = b + 3 * t + 24 := IntWalk.i64_in _ ⟨by omega, by omega⟩
  have v4 : IntKind.i64.wrap (b + 3 * t + 32) = b + 3 * t + 32 := IntWalk.i64_in _ ⟨by omega, by omega⟩
  have v5 : IntKind.i64.wrap (b + 3 * t + 40) = b + 3 * t + 40 := IntWalk.i64_in _ ⟨by omega, by omega⟩
  have v7 : IntKind.i64.wrap (t / 8) = t / 8 := IntWalk.i64_in _ ⟨by omega, by omega⟩
  have v8 : IntKind.i64.wrap (t / 2) = t / 2 := IntWalk.i64_in _ ⟨by omega, by omega⟩
  have v6 : IntKind.i64.wrap (b + 3 * t + 48) = b + 3 * t + 48 := IntWalk.i64_in _ ⟨by omega, by omega⟩
  have o1 : oneS b t m s (b + 3 * t) p 3 8 = -1 := by unfold oneS; rw [if_pos hk]; rw [if_neg (by omega)]
  have o2 : oneS b t m s b p 3 t = -1 := by unfold oneS; rw [if_pos hk]; rw [if_neg (by omega)]
  have o3 : oneS b t m s (b + 3 * t + 48) j s 8 = -1 := by unfold oneS; rw [if_pos hk]; rw [if_neg (by omega)]
  go_enter Try.func7, Try.ntmps7
  go_wp2_with (first
      | (go_at_call 22; refine (fixed14_any _).mono ?_; rintro e wf ⟨rfl, blf⟩; have hW := Lib.hid (show Below w.heap.size w wf from below_two (by go_grown) blf (by simp)); have hZ := Nat.lt_of_lt_of_le (show w.heap.size < (w.alloc (.cells #[.int .i64 b, .int .i64 t, .int .i64 m, .int .i64 s, .int .i32 i, .int .i32 ss, .int .i32 st] 41)).heap.size by simp) blf.size; have hL := Lib.hid ((LgAt.new w b t m s i ss st).keep blf (by simp)); clear blf; obtain ⟨k0, k1, k2, k3, k4, k5, k6⟩ := hL.out)
      | (go_at_call 27; refine (right_any _ _ _ _ _ _ _ _ hb0 hb1 hm0).mono ?_; rintro e wn ⟨rfl, bln⟩; replace hW := Lib.hid (below_two hW.out bln hW.out.size); replace hL := Lib.hid (hL.out.keep bln hZ); replace hZ := Nat.lt_of_lt_of_le hZ bln.size; clear bln k0 k1 k2 k3 k4 k5 k6; obtain ⟨k0, k1, k2, k3, k4, k5, k6⟩ := hL.out)
      | (go_at_call 28; refine (metaCheck_any _ _ _ _ _ _ _ _ hb0 hb1 ht hm0).mono ?_; rintro e wn ⟨rfl, bln⟩; replace hW := Lib.hid (below_two hW.out bln hW.out.size); replace hL := Lib.hid (hL.out.keep bln hZ); replace hZ := Nat.lt_of_lt_of_le hZ bln.size; clear bln k0 k1 k2 k3 k4 k5 k6; obtain ⟨k0, k1, k2, k3, k4, k5, k6⟩ := hL.out)
      | (go_at_call 29; refine (metaSize_any _ _ _ _ _ _ _ _ hb0 hb1 ht hm0 ht0).mono ?_; rintro e wn ⟨rfl, bln⟩; replace hW := Lib.hid (below_two hW.out bln hW.out.size); replace hL := Lib.hid (hL.out.keep bln hZ); replace hZ := Nat.lt_of_lt_of_le hZ bln.size; clear bln k0 k1 k2 k3 k4 k5 k6; obtain ⟨k0, k1, k2, k3, k4, k5, k6⟩ := hL.out)
      | (go_at_call 30; refine (tailAt_any _ _ _ _ _ _ _ _ _ hb0 hb1 ht hm0 ht0).mono ?_; rintro e wn ⟨rfl, bln⟩; replace hW := Lib.hid (below_two hW.out bln hW.out.size); replace hL := Lib.hid (hL.out.keep bln hZ); replace hZ := Nat.lt_of_lt_of_le hZ bln.size; clear bln k0 k1 k2 k3 k4 k5 k6; obtain ⟨k0, k1, k2, k3, k4, k5, k6⟩ := hL.out)
      | (go_at_call 31; refine (activeAt_any _ _ _ _ _ _ _ _ hb0 hb1 ht hm0 ht0).mono ?_; rintro e wn ⟨rfl, bln⟩; replace hW := Lib.hid (below_two hW.out bln hW.out.size); replace hL := Lib.hid (hL.out.keep bln hZ); replace hZ := Nat.lt_of_lt_of_le hZ bln.size; clear bln k0 k1 k2 k3 k4 k5 k6; obtain ⟨k0, k1, k2, k3, k4, k5, k6⟩ := hL.out)
      | (go_at_call 32; refine (limitAt_any _ _ _ _ _ _ _ _ hb0 hb1 ht hm0 ht0).mono ?_; rintro e wn ⟨rfl, bln⟩; replace hW := Lib.hid (below_two hW.out bln hW.out.size); replace hL := Lib.hid (hL.out.keep bln hZ); replace hZ := Nat.lt_of_lt_of_le hZ bln.size; clear bln k0 k1 k2 k3 k4 k5 k6; obtain ⟨k0, k1, k2, k3, k4, k5, k6⟩ := hL.out)
      | (go_at_call 33; refine (cleanAt_any _ _ _ _ _ _ _ _ hb0 hb1 ht hm0 ht0).mono ?_; rintro e wn ⟨rfl, bln⟩; replace hW := Lib.hid (below_two hW.out bln hW.out.size); replace hL := Lib.hid (hL.out.keep bln hZ); replace hZ := Nat.lt_of_lt_of_le hZ bln.size; clear bln k0 k1 k2 k3 k4 k5 k6; obtain ⟨k0, k1, k2, k3, k4, k5, k6⟩ := hL.out)
      | (go_at_call 34; refine (subAt_any _ _ _ _ _ _ _ _ _ hb0 hb1 ht hm0 ht0).mono ?_; rintro e wn ⟨rfl, bln⟩; replace hW := Lib.hid (below_two hW.out bln hW.out.size); replace hL := Lib.hid (hL.out.keep bln hZ); replace hZ := Nat.lt_of_lt_of_le hZ bln.size; clear bln k0 k1 k2 k3 k4 k5 k6; obtain ⟨k0, k1, k2, k3, k4, k5, k6⟩ := hL.out)
      | (go_at_call 35; refine (partAt_any _ _ _ _ _ _ _ _ _ hb0 hb1 ht hm0 ht0).mono ?_; rintro e wn ⟨rfl, bln⟩; replace hW := Lib.hid (below_two hW.out bln hW.out.size); replace hL := Lib.hid (hL.out.keep bln hZ); replace hZ := Nat.lt_of_lt_of_le hZ bln.size; clear bln k0 k1 k2 k3 k4 k5 k6; obtain ⟨k0, k1, k2, k3, k4, k5, k6⟩ := hL.out)
      | (go_at_call 36; refine (maxMessage_any _ _ _ _ _ _ _ _ hb0 hb1 ht hm0 ht0).mono ?_; rintro e wn ⟨rfl, bln⟩; replace hW := Lib.hid (below_two hW.out bln hW.out.size); replace hL := Lib.hid (hL.out.keep bln hZ); replace hZ := Nat.lt_of_lt_of_le hZ bln.size; clear bln k0 k1 k2 k3 k4 k5 k6; obtain ⟨k0, k1, k2, k3, k4, k5, k6⟩ := hL.out)
      | (go_at_call 37; refine (window_any _ _ _ _ _ _ _ _ hb0 hb1 ht hm0 ht0).mono ?_; rintro e wn ⟨rfl, bln⟩; replace hW := Lib.hid (below_two hW.out bln hW.out.size); replace hL := Lib.hid (hL.out.keep bln hZ); replace hZ := Nat.lt_of_lt_of_le hZ bln.size; clear bln k0 k1 k2 k3 k4 k5 k6; obtain ⟨k0, k1, k2, k3, k4, k5, k6⟩ := hL.out)
      | (go_at_call 38; refine (refM_any _ _ _ _ _ _ _ _).mono ?_; rintro e wn ⟨rfl, bln⟩; have bln2 : Below _ _ wn := bln ▸ (Below.refl _ _).alloc (Nat.le_refl _) _; clear bln; replace hW := Lib.hid (below_two hW.out bln2 hW.out.size); replace hL := Lib.hid (hL.out.keep bln2 hZ); replace hZ := Nat.lt_of_lt_of_le hZ bln2.size; clear bln2 k0 k1 k2 k3 k4 k5 k6; obtain ⟨k0, k1, k2, k3, k4, k5, k6⟩ := hL.out))
  try simp only [List.append_eq, List.cons_append, List.nil_append]
  go_region_held3 (fun w' => w'.cell? ⟨w.heap.size, 0, none⟩ = some (.int .i64 b) ∧ w'.cell? ⟨w.heap.size, 1, none⟩ = some (.int .i64 t) ∧ w'.cell? ⟨w.heap.size, 2, none⟩ = some (.int .i64 m) ∧ w'.cell? ⟨w.heap.size, 3, none⟩ = some (.int .i64 s) ∧ w'.cell? ⟨w.heap.size, 4, none⟩ = some (.int .i32 i) ∧ w'.cell? ⟨w.heap.size, 5, none⟩ = some (.int .i32 ss) ∧ w'.cell? ⟨w.heap.size, 6, none⟩ = some (.int .i32 st)) (go_keep)
    ((first
      | (go_at_call 28; refine (metaCheck_any _ _ _ _ _ _ _ _ hb0 hb1 ht hm0).mono ?_; rintro e wn ⟨rfl, bln⟩; have hcn := fun o => bln.cell (p := ⟨w.heap.size, o, none⟩) hZ; replace hW := Lib.hid (below_past hW.out bln rfl rfl rfl rfl hW.out.size); replace hZ := Nat.lt_of_lt_of_le hZ bln.size; clear bln)
      | (go_at_call 29; refine (metaSize_any _ _ _ _ _ _ _ _ hb0 hb1 ht hm0 ht0).mono ?_; rintro e wn ⟨rfl, bln⟩; have hcn := fun o => bln.cell (p := ⟨w.heap.size, o, none⟩) hZ; replace hW := Lib.hid (below_past hW.out bln rfl rfl rfl rfl hW.out.size); replace hZ := Nat.lt_of_lt_of_le hZ bln.size; clear bln)
      | (go_at_call 30; refine (tailAt_any _ _ _ _ _ _ _ _ _ hb0 hb1 ht hm0 ht0).mono ?_; rintro e wn ⟨rfl, bln⟩; have hcn := fun o => bln.cell (p := ⟨w.heap.size, o, none⟩) hZ; replace hW := Lib.hid (below_past hW.out bln rfl rfl rfl rfl hW.out.size); replace hZ := Nat.lt_of_lt_of_le hZ bln.size; clear bln)
      | (go_at_call 31; refine (activeAt_any _ _ _ _ _ _ _ _ hb0 hb1 ht hm0 ht0).mono ?_; rintro e wn ⟨rfl, bln⟩; have hcn := fun o => bln.cell (p := ⟨w.heap.size, o, none⟩) hZ; replace hW := Lib.hid (below_past hW.out bln rfl rfl rfl rfl hW.out.size); replace hZ := Nat.lt_of_lt_of_le hZ bln.size; clear bln)
      | (go_at_call 32; refine (limitAt_any _ _ _ _ _ _ _ _ hb0 hb1 ht hm0 ht0).mono ?_; rintro e wn ⟨rfl, bln⟩; have hcn := fun o => bln.cell (p := ⟨w.heap.size, o, none⟩) hZ; replace hW := Lib.hid (below_past hW.out bln rfl rfl rfl rfl hW.out.size); replace hZ := Nat.lt_of_lt_of_le hZ bln.size; clear bln)
      | (go_at_call 33; refine (cleanAt_any _ _ _ _ _ _ _ _ hb0 hb1 ht hm0 ht0).mono ?_; rintro e wn ⟨rfl, bln⟩; have hcn := fun o => bln.cell (p := ⟨w.heap.size, o, none⟩) hZ; replace hW := Lib.hid (below_past hW.out bln rfl rfl rfl rfl hW.out.size); replace hZ := Nat.lt_of_lt_of_le hZ bln.size; clear bln)
      | (go_at_call 34; refine (subAt_any _ _ _ _ _ _ _ _ _ hb0 hb1 ht hm0 ht0).mono ?_; rintro e wn ⟨rfl, bln⟩; have hcn := fun o => bln.cell (p := ⟨w.heap.size, o, none⟩) hZ; replace hW := Lib.hid (below_past hW.out bln rfl rfl rfl rfl hW.out.size); replace hZ := Nat.lt_of_lt_of_le hZ bln.size; clear bln)
      | (go_at_call 35; refine (partAt_any _ _ _ _ _ _ _ _ _ hb0 hb1 ht hm0 ht0).mono ?_; rintro e wn ⟨rfl, bln⟩; have hcn := fun o => bln.cell (p := ⟨w.heap.size, o, none⟩) hZ; replace hW := Lib.hid (below_past hW.out bln rfl rfl rfl rfl hW.out.size); replace hZ := Nat.lt_of_lt_of_le hZ bln.size; clear bln)
      | (go_at_call 36; refine (maxMessage_any _ _ _ _ _ _ _ _ hb0 hb1 ht hm0 ht0).mono ?_; rintro e wn ⟨rfl, bln⟩; have hcn := fun o => bln.cell (p := ⟨w.heap.size, o, none⟩) hZ; replace hW := Lib.hid (below_past hW.out bln rfl rfl rfl rfl hW.out.size); replace hZ := Nat.lt_of_lt_of_le hZ bln.size; clear bln)
      | (go_at_call 37; refine (window_any _ _ _ _ _ _ _ _ hb0 hb1 ht hm0 ht0).mono ?_; rintro e wn ⟨rfl, bln⟩; have hcn := fun o => bln.cell (p := ⟨w.heap.size, o, none⟩) hZ; replace hW := Lib.hid (below_past hW.out bln rfl rfl rfl rfl hW.out.size); replace hZ := Nat.lt_of_lt_of_le hZ bln.size; clear bln)))
  go_wp2
  go_ret
  exact ⟨rfl, hW.out⟩
end Go.Proofs.Ytmlmchgigepleaa
