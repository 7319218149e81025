/- Contracts of the places of a log's numbers (package meta, and its reference). Conditions: the arguments are in their kinds' ranges. -/
import Derived.Test.YtabifjolocmonaaMt
namespace Go.Proofs.Ytabifjolocmonaa
set_option maxRecDepth 100000
open Go.RowKit
set_option linter.unusedVariables false
theorem lgE_ok {b t m s : Int} (h : lgOk b t m s = true) : lgE b t m s = 0 := by unfold lgE; rw [if_pos h]
theorem lgE_no {b t m s : Int} (h : lgOk b t m s = false) : lgE b t m s = 1 := by unfold lgE; rw [if_neg (by simp [h])]
theorem lgOk_bd {b t m s : Int} (h : lgOk b t m s = true) : 256 ≤ t ∧ t ≤ 8192 ∧ 32 ≤ m ∧ m ≤ t / 8 ∧ m % 32 = 0 ∧ 1 ≤ s ∧ s ≤ 8 ∧ 0 ≤ b ∧ b % 8 = 0 ∧ b ≤ 131072 - (3 * t + 128) ∧ isT t = true := by
  unfold lgOk at h
  simp only [Bool.and_eq_true, decide_eq_true_eq] at h
  obtain ⟨⟨⟨⟨⟨⟨⟨⟨h1, h2⟩, h3⟩, h4⟩, h5⟩, h6⟩, h7⟩, h8⟩, h9⟩ := h
  have := isT_bd h1
  exact ⟨this.1, this.2, h2, h3, h4, h5, h6, h7, h8, h9, h1⟩
/-- Where a log's numbers stand, and how many bytes it takes, as the program reckons them. -/
def nbS (b t : Int) : Int := wrap64 (b + wrap64 (3 * t))
def szL (t : Int) : Int := wrap64 (wrap64 (3 * t) + 128)
theorem nbS_ok {b t m s : Int} (h : lgOk b t m s = true) : nbS b t = b + 3 * t := by have := lgOk_bd h; unfold nbS wrap64; omega
theorem szL_ok {b t m s : Int} (h : lgOk b t m s = true) : szL t = 3 * t + 128 := by have := lgOk_bd h; unfold szL wrap64; omega

theorem numbers_any (b t m s i ss st : Int) (w : World) :
    Calls Try.prog 72 #[.agg #[.int .i64 b, .int .i64 t, .int .i64 m, .int .i64 s, .int .i32 i, .int .i32 ss, .int .i32 st]] w fun e w' => e = .returned (.int .i64 (nbS b t)) ∧ w.alloc (.cells #[.int .i64 b, .int .i64 t, .int .i64 m, .int .i64 s, .int .i32 i, .int .i32 ss, .int .i32 st] 41) = w' := by
  go_enter Try.func72, Try.ntmps72
  go_wp2
  go_ret
  exact ⟨rfl, rfl⟩
theorem metasz_any (b t m s i ss st : Int) (w : World) :
    Calls Try.prog 69 #[.agg #[.int .i64 b, .int .i64 t, .int .i64 m, .int .i64 s, .int .i32 i, .int .i32 ss, .int .i32 st]] w fun e w' => e = .returned (.int .i64 (szL t)) ∧ w.alloc (.cells #[.int .i64 b, .int .i64 t, .int .i64 m, .int .i64 s, .int .i32 i, .int .i32 ss, .int .i32 st] 41) = w' := by
  go_enter Try.func69, Try.ntmps69
  go_wp2
  go_ret
  exact ⟨rfl, rfl⟩
theorem refM_any (b t m s i ss st : Int) (w : World) :
    Calls Try.prog 41 #[.agg #[.int .i64 b, .int .i64 t, .int .i64 m, .int .i64 s, .int .i32 i, .int .i32 ss, .int .i32 st]] w fun e w' => e = .returned (.int .i64 (nbS b t)) ∧ w.alloc (.cells #[.int .i64 b, .int .i64 t, .int .i64 m, .int .i64 s, .int .i32 i, .int .i32 ss, .int .i32 st] 41) = w' := by
  go_enter Try.func41, Try.ntmps41
  go_wp2
  go_ret
  exact ⟨rfl, rfl⟩
theorem at_ok (b t m s i ss st n : Int) (w : World) (hb0 : -9223372036854775808 ≤ b) (hb1 : b ≤ 9223372036854775807) (ht : t ≤ 9223372036854775807) (hm0 : -9223372036854775808 ≤ m) (hk : lgOk b t m s = true) :
    Calls Try.prog 70 #[.agg #[.int .i64 b, .int .i64 t, .int .i64 m, .int .i64 s, .int .i32 i, .int .i32 ss, .int .i32 st], .int .i64 n] w fun e w' => e = .returned (.int .i64 n) ∧ Below w.heap.size w w' := by
  have hE := lgE_ok hk
  go_enter Try.func70, Try.ntmps70
  go_wp2_with (go_at_call 31; refine (metaCheck_any _ _ _ _ _ _ _ _ hb0 hb1 ht hm0).mono ?_; rintro e w1 ⟨rfl, hb⟩)
  go_ret
  exact ⟨rfl, ((Below.refl _ _).alloc (Nat.le_refl _) _).trans (hb.mono (by simp))⟩
theorem at_no (b t m s i ss st n : Int) (w : World) (hb0 : -9223372036854775808 ≤ b) (hb1 : b ≤ 9223372036854775807) (ht : t ≤ 9223372036854775807) (hm0 : -9223372036854775808 ≤ m) (hk : lgOk b t m s = false) :
    Calls Try.prog 70 #[.agg #[.int .i64 b, .int .i64 t, .int .i64 m, .int .i64 s, .int .i32 i, .int .i32 ss, .int .i32 st], .int .i64 n] w fun e w' => e = .returned (.int .i64 0) ∧ Below w.heap.size w w' := by
  have hE := lgE_no hk
  go_enter Try.func70, Try.ntmps70
  go_wp2_with (go_at_call 31; refine (metaCheck_any _ _ _ _ _ _ _ _ hb0 hb1 ht hm0).mono ?_; rintro e w1 ⟨rfl, hb⟩)
  go_ret
  exact ⟨rfl, ((Below.refl _ _).alloc (Nat.le_refl _) _).trans (hb.mono (by simp))⟩
theorem one_no (b t m s i ss st n j c d : Int) (w : World) (hb0 : -9223372036854775808 ≤ b) (hb1 : b ≤ 9223372036854775807) (ht : t ≤ 9223372036854775807) (hm0 : -9223372036854775808 ≤ m) (hk : lgOk b t m s = false) :
    Calls Try.prog 71 #[.agg #[.int .i64 b, .int .i64 t, .int .i64 m, .int .i64 s, .int .i32 i, .int .i32 ss, .int .i32 st], .int .i64 n, .int .i64 j, .int .i64 c, .int .i64 d] w fun e w' => e = .returned (.int .i64 0) ∧ Below w.heap.size w w' := by
  have hE := lgE_no hk
  go_enter Try.func71, Try.ntmps71
  go_wp2_with (go_at_call 31; refine (metaCheck_any _ _ _ _ _ _ _ _ hb0 hb1 ht hm0).mono ?_; rintro e w1 ⟨rfl, hb⟩)
  go_ret
  exact ⟨rfl, ((Below.refl _ _).alloc (Nat.le_refl _) _).trans (hb.mono (by simp))⟩
theorem one_out (b t m s i ss st n j c d : Int) (w : World) (hb0 : -9223372036854775808 ≤ b) (hb1 : b ≤ 9223372036854775807) (ht : t ≤ 9223372036854775807) (hm0 : -9223372036854775808 ≤ m) (hk : lgOk b t m s = true) (hj : j < 0 ∨ c ≤ j) :
    Calls Try.prog 71 #[.agg #[.int .i64 b, .int .i64 t, .int .i64 m, .int .i64 s, .int .i32 i, .int .i32 ss, .int .i32 st], .int .i64 n, .int .i64 j, .int .i64 c, .int .i64 d] w fun e w' => e = .returned (.int .i64 (-1)) ∧ Below w.heap.size w w' := by
  have hE := lgE_ok hk
  by_cases hj0 : j < 0
  · clear hj
    go_enter Try.func71, Try.ntmps71
    go_wp2_with (go_at_call 31; refine (metaCheck_any _ _ _ _ _ _ _ _ hb0 hb1 ht hm0).mono ?_; rintro e w1 ⟨rfl, hb⟩)
    go_ret
    exact ⟨rfl, ((Below.refl _ _).alloc (Nat.le_refl _) _).trans (hb.mono (by simp))⟩
  · have hj1 : c ≤ j := by omega
    clear hj
    go_enter Try.func71, Try.ntmps71
    go_wp2_with (go_at_call 31; refine (metaCheck_any _ _ _ _ _ _ _ _ hb0 hb1 ht hm0).mono ?_; rintro e w1 ⟨rfl, hb⟩)
    go_ret
    exact ⟨rfl, ((Below.refl _ _).alloc (Nat.le_refl _) _).trans (hb.mono (by simp))⟩
theorem one_in (b t m s i ss st n j c d : Int) (w : World) (hb0 : -9223372036854775808 ≤ b) (hb1 : b ≤ 9223372036854775807) (ht : t ≤ 9223372036854775807) (hm0 : -9223372036854775808 ≤ m) (hk : lgOk b t m s = true) (hj0 : 0 ≤ j) (hj1 : j < c) :
    Calls Try.prog 71 #[.agg #[.int .i64 b, .int .i64 t, .int .i64 m, .int .i64 s, .int .i32 i, .int .i32 ss, .int .i32 st], .int .i64 n, .int .i64 j, .int .i64 c, .int .i64 d] w fun e w' => e = .returned (.int .i64 (wrap64 (n + wrap64 (j * d)))) ∧ Below w.heap.size w w' := by
  have hE := lgE_ok hk
  go_enter Try.func71, Try.ntmps71
  go_wp2_with (go_at_call 31; refine (metaCheck_any _ _ _ _ _ _ _ _ hb0 hb1 ht hm0).mono ?_; rintro e w1 ⟨rfl, hb⟩)
  go_ret
  exact ⟨rfl, ((Below.refl _ _).alloc (Nat.le_refl _) _).trans (hb.mono (by simp))⟩
/-- What 'one' answers. -/
def oneS (b t m s n j c d : Int) : Int := if lgOk b t m s = true then (if 0 ≤ j ∧ j < c then wrap64 (n + wrap64 (j * d)) else -1) else 0
/-- What 'at' answers. -/
def atS (b t m s n : Int) : Int := if lgOk b t m s = true then n else 0
theorem one_any (b t m s i ss st n j c d : Int) (w : World) (hb0 : -9223372036854775808 ≤ b) (hb1 : b ≤ 9223372036854775807) (ht : t ≤ 9223372036854775807) (hm0 : -9223372036854775808 ≤ m) :
    Calls Try.prog 71 #[.agg #[.int .i64 b, .int .i64 t, .int .i64 m, .int .i64 s, .int .i32 i, .int .i32 ss, .int .i32 st], .int .i64 n, .int .i64 j, .int .i64 c, .int .i64 d] w fun e w' => e = .returned (.int .i64 (oneS b t m s n j c d)) ∧ Below w.heap.size w w' := by
  unfold oneS
  by_cases hk : lgOk b t m s = true
  · rw [if_pos hk]
    by_cases hj : 0 ≤ j ∧ j < c
    · rw [if_pos hj]; exact one_in b t m s i ss st n j c d w hb0 hb1 ht hm0 hk hj.1 hj.2
    · rw [if_neg hj]; exact one_out b t m s i ss st n j c d w hb0 hb1 ht hm0 hk (by omega)
  · rw [if_neg hk]; exact one_no b t m s i ss st n j c d w hb0 hb1 ht hm0 (by simpa using hk)
theorem at_any (b t m s i ss st n : Int) (w : World) (hb0 : -9223372036854775808 ≤ b) (hb1 : b ≤ 9223372036854775807) (ht : t ≤ 9223372036854775807) (hm0 : -9223372036854775808 ≤ m) :
    Calls Try.prog 70 #[.agg #[.int .i64 b, .int .i64 t, .int .i64 m, .int .i64 s, .int .i32 i, .int .i32 ss, .int .i32 st], .int .i64 n] w fun e w' => e = .returned (.int .i64 (atS b t m s n)) ∧ Below w.heap.size w w' := by
  unfold atS
  by_cases hk : lgOk b t m s = true
  · rw [if_pos hk]; exact at_ok b t m s i ss st n w hb0 hb1 ht hm0 hk
  · rw [if_neg hk]; exact at_no b t m s i ss st n w hb0 hb1 ht hm0 (by simpa using hk)
theorem below_two {B : Nat} {w w1 w2 : World} (h : Below B w w1) (hb : Below w1.heap.size w1 w2) (hB : B ≤ w1.heap.size) : Below B w w2 := h.trans (hb.mono hB)

set_option maxHeartbeats 1000000 in
theorem metaSize_any (b t m s i ss st : Int) (w : World) (hb0 : -9223372036854775808 ≤ b) (hb1 : b ≤ 9223372036854775807) (ht : t ≤ 9223372036854775807) (hm0 : -9223372036854775808 ≤ m) (ht0 : -9223372036854775808 ≤ t) :
    Calls Try.prog 32 #[.agg #[.int .i64 b, .int .i64 t, .int .i64 m, .int .i64 s, .int .i32 i, .int .i32 ss, .int .i32 st]] w fun e w' => e = .returned (.int .i64 (atS b t m s (szL t))) ∧ Below w.heap.size w w' := by
  go_enter Try.func32, Try.ntmps32
  go_wp2_with fail
  go_region_held3 (fun w' => w'.cell? ⟨w.heap.size, 0, none⟩ = some (.int .i64 b) ∧ w'.cell? ⟨w.heap.size, 1, none⟩ = some (.int .i64 t) ∧ w'.cell? ⟨w.heap.size, 2, none⟩ = some (.int .i64 m) ∧ w'.cell? ⟨w.heap.size, 3, none⟩ = some (.int .i64 s) ∧ w'.cell? ⟨w.heap.size, 4, none⟩ = some (.int .i32 i) ∧ w'.cell? ⟨w.heap.size, 5, none⟩ = some (.int .i32 ss) ∧ w'.cell? ⟨w.heap.size, 6, none⟩ = some (.int .i32 st)) (go_keep)
    ((first | (go_at_call 69; refine (metasz_any _ _ _ _ _ _ _ _).mono ?_; rintro e w' ⟨rfl, rfl⟩) | (go_at_call 70; refine (at_any _ _ _ _ _ _ _ _ _ hb0 hb1 ht hm0).mono ?_; rintro e w1 ⟨rfl, hb⟩; have hc := fun o => hb.cell (p := ⟨w.heap.size, o, none⟩) (by simp; try omega))))
  all_goals
    go_wp2
    go_ret
    exact ⟨rfl, below_two (by go_grown) hb (by simp; try omega)⟩
set_option maxHeartbeats 1000000 in
theorem activeAt_any (b t m s i ss st : Int) (w : World) (hb0 : -9223372036854775808 ≤ b) (hb1 : b ≤ 9223372036854775807) (ht : t ≤ 9223372036854775807) (hm0 : -9223372036854775808 ≤ m) (ht0 : -9223372036854775808 ≤ t) :
    Calls Try.prog 34 #[.agg #[.int .i64 b, .int .i64 t, .int .i64 m, .int .i64 s, .int .i32 i, .int .i32 ss, .int .i32 st]] w fun e w' => e = .returned (.int .i64 (atS b t m s (IntKind.i64.wrap (nbS b t + 24)))) ∧ Below w.heap.size w w' := by
  go_enter Try.func34, Try.ntmps34
  go_wp2_with fail
  go_region_held3 (fun w' => w'.cell? ⟨w.heap.size, 0, none⟩ = some (.int .i64 b) ∧ w'.cell? ⟨w.heap.size, 1, none⟩ = some (.int .i64 t) ∧ w'.cell? ⟨w.heap.size, 2, none⟩ = some (.int .i64 m) ∧ w'.cell? ⟨w.heap.size, 3, none⟩ = some (.int .i64 s) ∧ w'.cell? ⟨w.heap.size, 4, none⟩ = some (.int .i32 i) ∧ w'.cell? ⟨w.heap.size, 5, none⟩ = some (.int .i32 ss) ∧ w'.cell? ⟨w.heap.size, 6, none⟩ = some (.int .i32 st)) (go_keep)
    ((first | (go_at_call 72; refine (numbers_any _ _ _ _ _ _ _ _).mono ?_; rintro e w' ⟨rfl, rfl⟩) | (go_at_call 70; refine (at_any _ _ _ _ _ _ _ _ _ hb0 hb1 ht hm0).mono ?_; rintro e w1 ⟨rfl, hb⟩; have hc := fun o => hb.cell (p := ⟨w.heap.size, o, none⟩) (by simp; try omega))))
  all_goals
    go_wp2
    go_ret
    exact ⟨rfl, below_two (by go_grown) hb (by simp; try omega)⟩
set_option maxHeartbeats 1000000 in
theorem limitAt_any (b t m s i ss st : Int) (w : World) (hb0 : -9223372036854775808 ≤ b) (hb1 : b ≤ 9223372036854775807) (ht : t ≤ 9223372036854775807) (hm0 : -9223372036854775808 ≤ m) (ht0 : -9223372036854775808 ≤ t) :
    Calls Try.prog 35 #[.agg #[.int .i64 b, .int .i64 t, .int .i64 m, .int .i64 s, .int .i32 i, .int .i32 ss, .int .i32 st]] w fun e w' => e = .returned (.int .i64 (atS b t m s (IntKind.i64.wrap (nbS b t + 32)))) ∧ Below w.heap.size w w' := by
  go_enter Try.func35, Try.ntmps35
  go_wp2_with fail
  go_region_held3 (fun w' => w'.cell? ⟨w.heap.size, 0, none⟩ = some (.int .i64 b) ∧ w'.cell? ⟨w.heap.size, 1, none⟩ = some (.int .i64 t) ∧ w'.cell? ⟨w.heap.size, 2, none⟩ = some (.int .i64 m) ∧ w'.cell? ⟨w.heap.size, 3, none⟩ = some (.int .i64 s) ∧ w'.cell? ⟨w.heap.size, 4, none⟩ = some (.int .i32 i) ∧ w'.cell? ⟨w.heap.size, 5, none⟩ = some (.int .i32 ss) ∧ w'.cell? ⟨w.heap.size, 6, none⟩ = some (.int .i32 st)) (go_keep)
    ((first | (go_at_call 72; refine (numbers_any _ _ _ _ _ _ _ _).mono ?_; rintro e w' ⟨rfl, rfl⟩) | (go_at_call 70; refine (at_any _ _ _ _ _ _ _ _ _ hb0 hb1 ht hm0).mono ?_; rintro e w1 ⟨rfl, hb⟩; have hc := fun o => hb.cell (p := ⟨w.heap.size, o, none⟩) (by simp; try omega))))
  all_goals
    go_wp2
    go_ret
    exact ⟨rfl, below_two (by go_grown) hb (by simp; try omega)⟩
set_option maxHeartbeats 1000000 in
theorem cleanAt_any (b t m s i ss st : Int) (w : World) (hb0 : -9223372036854775808 ≤ b) (hb1 : b ≤ 9223372036854775807) (ht : t ≤ 9223372036854775807) (hm0 : -9223372036854775808 ≤ m) (ht0 : -9223372036854775808 ≤ t) :
    Calls Try.prog 36 #[.agg #[.int .i64 b, .int .i64 t, .int .i64 m, .int .i64 s, .int .i32 i, .int .i32 ss, .int .i32 st]] w fun e w' => e = .returned (.int .i64 (atS b t m s (IntKind.i64.wrap (nbS b t + 40)))) ∧ Below w.heap.size w w' := by
  go_enter Try.func36, Try.ntmps36
  go_wp2_with fail
  go_region_held3 (fun w' => w'.cell? ⟨w.heap.size, 0, none⟩ = some (.int .i64 b) ∧ w'.cell? ⟨w.heap.size, 1, none⟩ = some (.int .i64 t) ∧ w'.cell? ⟨w.heap.size, 2, none⟩ = some (.int .i64 m) ∧ w'.cell? ⟨w.heap.size, 3, none⟩ = some (.int .i64 s) ∧ w'.cell? ⟨w.heap.size, 4, none⟩ = some (.int .i32 i) ∧ w'.cell? ⟨w.heap.size, 5, none⟩ = some (.int .i32 ss) ∧ w'.cell? ⟨w.heap.size, 6, none⟩ = some (.int .i32 st)) (go_keep)
    ((first | (go_at_call 72; refine (numbers_any _ _ _ _ _ _ _ _).mono ?_; rintro e w' ⟨rfl, rfl⟩) | (go_at_call 70; refine (at_any _ _ _ _ _ _ _ _ _ hb0 hb1 ht hm0).mono ?_; rintro e w1 ⟨rfl, hb⟩; have hc := fun o => hb.cell (p := ⟨w.heap.size, o, none⟩) (by simp; try omega))))
  all_goals
    go_wp2
    go_ret
    exact ⟨rfl, below_two (by go_grown) hb (by simp; try omega)⟩
set_option maxHeartbeats 1000000 in
theorem maxMessage_any (b t m s i ss st : Int) (w : World) (hb0 : -9223372036854775808 ≤ b) (hb1 : b ≤ 9223372036854775807) (ht : t ≤ 9223372036854775807) (hm0 : -9223372036854775808 ≤ m) (ht0 : -9223372036854775808 ≤ t) :
    Calls Try.prog 39 #[.agg #[.int .i64 b, .int .i64 t, .int .i64 m, .int .i64 s, .int .i32 i, .int .i32 ss, .int .i32 st]] w fun e w' => e = .returned (.int .i64 (atS b t m s (t.tdiv 8))) ∧ Below w.heap.size w w' := by
  go_enter Try.func39, Try.ntmps39
  go_wp2_with (go_at_call 70; refine (at_any _ _ _ _ _ _ _ _ _ hb0 hb1 ht hm0).mono ?_; rintro e w1 ⟨rfl, hb⟩; have hc := fun o => hb.cell (p := ⟨w.heap.size, o, none⟩) (by simp; try omega))
  go_ret
  exact ⟨rfl, below_two (by go_grown) hb (by simp; try omega)⟩
set_option maxHeartbeats 1000000 in
theorem window_any (b t m s i ss st : Int) (w : World) (hb0 : -9223372036854775808 ≤ b) (hb1 : b ≤ 9223372036854775807) (ht : t ≤ 9223372036854775807) (hm0 : -9223372036854775808 ≤ m) (ht0 : -9223372036854775808 ≤ t) :
    Calls Try.prog 40 #[.agg #[.int .i64 b, .int .i64 t, .int .i64 m, .int .i64 s, .int .i32 i, .int .i32 ss, .int .i32 st]] w fun e w' => e = .returned (.int .i64 (atS b t m s (t.tdiv 2))) ∧ Below w.heap.size w w' := by
  go_enter Try.func40, Try.ntmps40
  go_wp2_with (go_at_call 70; refine (at_any _ _ _ _ _ _ _ _ _ hb0 hb1 ht hm0).mono ?_; rintro e w1 ⟨rfl, hb⟩; have hc := fun o => hb.cell (p := ⟨w.heap.size, o, none⟩) (by simp; try omega))
  go_ret
  exact ⟨rfl, below_two (by go_grown) hb (by simp; try omega)⟩
set_option maxHeartbeats 1000000 in
theorem tailAt_any (b t m s i ss st j : Int) (w : World) (hb0 : -9223372036854775808 ≤ b) (hb1 : b ≤ 9223372036854775807) (ht : t ≤ 9223372036854775807) (hm0 : -9223372036854775808 ≤ m) (ht0 : -9223372036854775808 ≤ t) :
    Calls Try.prog 33 #[.agg #[.int .i64 b, .int .i64 t, .int .i64 m, .int .i64 s, .int .i32 i, .int .i32 ss, .int .i32 st], .int .i64 j] w fun e w' => e = .returned (.int .i64 (oneS b t m s (nbS b t) j 3 8)) ∧ Below w.heap.size w w' := by
  go_enter Try.func33, Try.ntmps33
  go_wp2_with fail
  go_region_held3 (fun w' => w'.cell? ⟨w.heap.size, 0, none⟩ = some (.int .i64 b) ∧ w'.cell? ⟨w.heap.size, 1, none⟩ = some (.int .i64 t) ∧ w'.cell? ⟨w.heap.size, 2, none⟩ = some (.int .i64 m) ∧ w'.cell? ⟨w.heap.size, 3, none⟩ = some (.int .i64 s) ∧ w'.cell? ⟨w.heap.size, 4, none⟩ = some (.int .i32 i) ∧ w'.cell? ⟨w.heap.size, 5, none⟩ = some (.int .i32 ss) ∧ w'.cell? ⟨w.heap.size, 6, none⟩ = some (.int .i32 st)) (go_keep)
    ((first | (go_at_call 72; refine (numbers_any _ _ _ _ _ _ _ _).mono ?_; rintro e w' ⟨rfl, rfl⟩) | (go_at_call 71; refine (one_any _ _ _ _ _ _ _ _ _ _ _ _ hb0 hb1 ht hm0).mono ?_; rintro e w1 ⟨rfl, hb⟩; have hc := fun o => hb.cell (p := ⟨w.heap.size, o, none⟩) (by simp; try omega))))
  all_goals
    go_wp2
    go_ret
    exact ⟨rfl, below_two (by go_grown) hb (by simp; try omega)⟩
set_option maxHeartbeats 1000000 in
theorem subAt_any (b t m s i ss st j : Int) (w : World) (hb0 : -9223372036854775808 ≤ b) (hb1 : b ≤ 9223372036854775807) (ht : t ≤ 9223372036854775807) (hm0 : -9223372036854775808 ≤ m) (ht0 : -9223372036854775808 ≤ t) :
    Calls Try.prog 37 #[.agg #[.int .i64 b, .int .i64 t, .int .i64 m, .int .i64 s, .int .i32 i, .int .i32 ss, .int .i32 st], .int .i64 j] w fun e w' => e = .returned (.int .i64 (oneS b t m s (IntKind.i64.wrap (nbS b t + 48)) j s 8)) ∧ Below w.heap.size w w' := by
  go_enter Try.func37, Try.ntmps37
  go_wp2_with fail
  go_region_held3 (fun w' => w'.cell? ⟨w.heap.size, 0, none⟩ = some (.int .i64 b) ∧ w'.cell? ⟨w.heap.size, 1, none⟩ = some (.int .i64 t) ∧ w'.cell? ⟨w.heap.size, 2, none⟩ = some (.int .i64 m) ∧ w'.cell? ⟨w.heap.size, 3, none⟩ = some (.int .i64 s) ∧ w'.cell? ⟨w.heap.size, 4, none⟩ = some (.int .i32 i) ∧ w'.cell? ⟨w.heap.size, 5, none⟩ = some (.int .i32 ss) ∧ w'.cell? ⟨w.heap.size, 6, none⟩ = some (.int .i32 st)) (go_keep)
    ((first | (go_at_call 72; refine (numbers_any _ _ _ _ _ _ _ _).mono ?_; rintro e w' ⟨rfl, rfl⟩) | (go_at_call 71; refine (one_any _ _ _ _ _ _ _ _ _ _ _ _ hb0 hb1 ht hm0).mono ?_; rintro e w1 ⟨rfl, hb⟩; have hc := fun o => hb.cell (p := ⟨w.heap.size, o, none⟩) (by simp; try omega))))
  all_goals
    go_wp2
    go_ret
    exact ⟨rfl, below_two (by go_grown) hb (by simp; try omega)⟩
set_option maxHeartbeats 1000000 in
theorem partAt_any (b t m s i ss st j : Int) (w : World) (hb0 : -9223372036854775808 ≤ b) (hb1 : b ≤ 9223372036854775807) (ht : t ≤ 9223372036854775807) (hm0 : -9223372036854775808 ≤ m) (ht0 : -9223372036854775808 ≤ t) :
    Calls Try.prog 38 #[.agg #[.int .i64 b, .int .i64 t, .int .i64 m, .int .i64 s, .int .i32 i, .int .i32 ss, .int .i32 st], .int .i64 j] w fun e w' => e = .returned (.int .i64 (oneS b t m s b j 3 t)) ∧ Below w.heap.size w w' := by
  go_enter Try.func38, Try.ntmps38
  go_wp2_with (go_at_call 71; refine (one_any _ _ _ _ _ _ _ _ _ _ _ _ hb0 hb1 ht hm0).mono ?_; rintro e w1 ⟨rfl, hb⟩; have hc := fun o => hb.cell (p := ⟨w.heap.size, o, none⟩) (by simp; try omega))
  go_ret
  exact ⟨rfl, below_two (by go_grown) hb (by simp; try omega)⟩
end Go.Proofs.Ytabifjolocmonaa
