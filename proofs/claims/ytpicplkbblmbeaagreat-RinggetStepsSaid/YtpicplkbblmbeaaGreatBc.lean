/- Contracts of membuf.sized and membuf.Check. Conditions: the numbers are in their kinds' ranges. -/
import Derived.Test.YtpicplkbblmbeaaGreatBb
namespace Go.Proofs.YtpicplkbblmbeaaGreat
set_option maxRecDepth 100000
open Go.RowKit
set_option linter.unusedVariables false
theorem cells_newb {w w1 : World} {c : Array Value} {t : TypeId} (h : Below (w.alloc (.cells c t)).heap.size (w.alloc (.cells c t)) w1) (i : Nat) : w1.cell? ⟨w.heap.size, i, none⟩ = c[i]? := by
  rw [h.cell (p := ⟨w.heap.size, i, none⟩) (by simp), World.cell?, (MapKept.heap_alloc w _).1]
  rfl
theorem cells6b {w w1 : World} {a b c d e f : Value} {t : TypeId} (h : Below (w.alloc (.cells #[a, b, c, d, e, f] t)).heap.size (w.alloc (.cells #[a, b, c, d, e, f] t)) w1) :
    w1.cell? ⟨w.heap.size, 0, none⟩ = some a ∧ w1.cell? ⟨w.heap.size, 1, none⟩ = some b ∧ w1.cell? ⟨w.heap.size, 2, none⟩ = some c ∧ w1.cell? ⟨w.heap.size, 3, none⟩ = some d ∧ w1.cell? ⟨w.heap.size, 4, none⟩ = some e ∧ w1.cell? ⟨w.heap.size, 5, none⟩ = some f :=
  ⟨cells_newb h 0, cells_newb h 1, cells_newb h 2, cells_newb h 3, cells_newb h 4, cells_newb h 5⟩
/-- An access as a value. -/
def acV (k a n v x : Int) (s : Value) : Value := .agg #[.int .i64 k, .int .i64 a, .int .i64 n, .int .u64 v, .int .u64 x, s]
def acSized (k n l : Int) : Bool :=
  if k = 1 ∨ k = 2 ∨ k = 4 then n == 4 || n == 8 else if k = 3 then n == 8 else if k = 5 then decide (0 ≤ n) && decide (n ≤ 8) else if k = 6 then n == l && decide (n ≤ 8) else false
def acE (size k a n l : Int) : Int := if acSized k n l = false then 1 else if a < 0 ∨ size < a ∨ size - a < n then 2 else if k < 5 ∧ a % n ≠ 0 then 3 else 0
set_option maxHeartbeats 2000000 in
theorem sized_any (k a n v x : Int) (s0 : Option Addr) (sl sc : Nat) (w : World) :
    Calls Tryz.prog 118 #[.agg #[.int .i64 k, .int .i64 a, .int .i64 n, .int .u64 v, .int .u64 x, .slice s0 sl sc]] w fun e w' => e = .returned (.bool (acSized k n sl)) ∧ Below w.heap.size w w' := by
  by_cases k1 : k = 1
  · subst k1
    have HV := Lib.hid (show acSized 1 n sl = (n == 4 || n == 8) by simp [acSized])
    go_enter Tryz.func118, Tryz.ntmps118
    go_wp2
    all_goals
      go_ret
      exact ⟨congrArg Ending.returned (congrArg Value.bool (by rw [HV.out] <;> first | (simp [*]; done) | (simp; omega))), by go_grown⟩
  by_cases k2 : k = 2
  · subst k2
    have HV := Lib.hid (show acSized 2 n sl = (n == 4 || n == 8) by simp [acSized])
    clear k1
    go_enter Tryz.func118, Tryz.ntmps118
    go_wp2
    all_goals
      go_ret
      exact ⟨congrArg Ending.returned (congrArg Value.bool (by rw [HV.out] <;> first | (simp [*]; done) | (simp; omega))), by go_grown⟩
  by_cases k4 : k = 4
  · subst k4
    have HV := Lib.hid (show acSized 4 n sl = (n == 4 || n == 8) by simp [acSized])
    clear k1 k2
    go_enter Tryz.func118, Tryz.ntmps118
    go_wp2
    all_goals
      go_ret
      exact ⟨congrArg Ending.returned (congrArg Value.bool (by rw [HV.out] <;> first | (simp [*]; done) | (simp; omega))), by go_grown⟩
  by_cases k3 : k = 3
  · subst k3
    have HV := Lib.hid (show acSized 3 n sl = (n == 8) by simp [acSized])
    clear k1 k2 k4
    go_enter Tryz.func118, Tryz.ntmps118
    go_wp2
    all_goals
      go_ret
      exact ⟨congrArg Ending.returned (congrArg Value.bool (by rw [HV.out])), by go_grown⟩
  by_cases k5 : k = 5
  · subst k5
    have HV := Lib.hid (show acSized 5 n sl = (decide (0 ≤ n) && decide (n ≤ 8)) by simp [acSized])
    clear k1 k2 k4 k3
    go_enter Tryz.func118, Tryz.ntmps118
    go_wp2
    all_goals
      go_ret
      exact ⟨congrArg Ending.returned (congrArg Value.bool (by rw [HV.out] <;> first | (simp [*]; done) | (simp; omega))), by go_grown⟩
  by_cases k6 : k = 6
  · subst k6
    have HV := Lib.hid (show acSized 6 n sl = (n == (sl : Int) && decide (n ≤ 8)) by simp [acSized])
    clear k1 k2 k4 k3 k5
    go_enter Tryz.func118, Tryz.ntmps118
    go_wp2
    all_goals
      go_ret
      exact ⟨congrArg Ending.returned (congrArg Value.bool (by rw [HV.out] <;> first | (simp [*]; done) | (simp; omega))), by go_grown⟩
  have HV := Lib.hid (show acSized k n sl = false by simp [acSized, k1, k2, k3, k4, k5, k6])
  have d1 : (k == 1) = false := by simpa using k1
  have d2 : (k == 2) = false := by simpa using k2
  have d3 : (k == 3) = false := by simpa using k3
  have d4 : (k == 4) = false := by simpa using k4
  have d5 : (k == 5) = false := by simpa using k5
  have d6 : (k == 6) = false := by simpa using k6
  clear k1 k2 k3 k4 k5 k6
  go_enter Tryz.func118, Tryz.ntmps118
  go_wp2
  all_goals
    go_ret
    exact ⟨congrArg Ending.returned (congrArg Value.bool (by rw [HV.out])), by go_grown⟩
theorem acSized_n {k n l : Int} (h : acSized k n l = true) (hk : k < 5) : n = 4 ∨ n = 8 := by
  unfold acSized at h
  split at h
  · simpa using h
  split at h
  · simp at h; omega
  split at h
  · omega
  split at h
  · omega
  · cases h
theorem acSized_bd {k n l : Int} (h : acSized k n l = true) (hl : 0 ≤ l) : 0 ≤ n ∧ n ≤ 8 := by
  unfold acSized at h
  split at h
  · simp at h; omega
  split at h
  · simp at h; omega
  split at h
  · simp at h; omega
  split at h
  · simp at h; omega
  · cases h
set_option maxHeartbeats 2000000 in
theorem mCheck_any (size k a n v x : Int) (s0 : Option Addr) (sl sc : Nat) (w : World) (hs : 0 ≤ size) (hs' : size ≤ 131072) :
    Calls Tryz.prog 56 #[.int .i64 size, .agg #[.int .i64 k, .int .i64 a, .int .i64 n, .int .u64 v, .int .u64 x, .slice s0 sl sc]] w fun e w' => e = .returned (.int .i64 (acE size k a n sl)) ∧ Below w.heap.size w w' := by
  rcases hz : acSized k n sl with _ | _
  · have HV := Lib.hid (show acE size k a n sl = 1 by unfold acE; rw [if_pos hz])
    have HZ := Lib.hid hz
    clear hz
    go_enter Tryz.func56, Tryz.ntmps56
    go_wp2_with fail
    refine (sized_any k a n v x s0 sl sc _).mono ?_
    rintro e w1 ⟨rfl, b1⟩
    rw [HZ.out]
    go_wp2
    go_ret
    exact ⟨ret_int (by rw [HV.out]), Below.trans (by go_grown) (b1.mono (by simp))⟩
  have HZ := Lib.hid hz
  have hn := acSized_bd hz (by omega)
  by_cases ha : a < 0
  · have HV := Lib.hid (show acE size k a n sl = 2 by unfold acE; rw [if_neg (by rw [hz]; decide), if_pos (.inl ha)])
    clear hz
    go_enter Tryz.func56, Tryz.ntmps56
    go_wp2_with fail
    refine (sized_any k a n v x s0 sl sc _).mono ?_
    rintro e w1 ⟨rfl, b1⟩
    rw [HZ.out]
    obtain ⟨f0, f1, f2, f3, f4, f5⟩ := cells6b b1
    go_wp2
    go_ret
    exact ⟨ret_int (by rw [HV.out]), Below.trans (by go_grown) (b1.mono (by simp))⟩
  by_cases ha2 : size < a
  · have HV := Lib.hid (show acE size k a n sl = 2 by unfold acE; rw [if_neg (by rw [hz]; decide), if_pos (.inr (.inl ha2))])
    clear hz
    go_enter Tryz.func56, Tryz.ntmps56
    go_wp2_with fail
    refine (sized_any k a n v x s0 sl sc _).mono ?_
    rintro e w1 ⟨rfl, b1⟩
    rw [HZ.out]
    obtain ⟨f0, f1, f2, f3, f4, f5⟩ := cells6b b1
    go_wp2
    go_ret
    exact ⟨ret_int (by rw [HV.out]), Below.trans (by go_grown) (b1.mono (by simp))⟩
  by_cases ha3 : size - a < n
  · have HV := Lib.hid (show acE size k a n sl = 2 by unfold acE; rw [if_neg (by rw [hz]; decide), if_pos (.inr (.inr ha3))])
    clear hz
    go_enter Tryz.func56, Tryz.ntmps56
    go_wp2_with fail
    refine (sized_any k a n v x s0 sl sc _).mono ?_
    rintro e w1 ⟨rfl, b1⟩
    rw [HZ.out]
    obtain ⟨f0, f1, f2, f3, f4, f5⟩ := cells6b b1
    go_wp2
    go_ret
    exact ⟨ret_int (by rw [HV.out]), Below.trans (by go_grown) (b1.mono (by simp))⟩
  by_cases hk : k < 5
  · have h48 := acSized_n hz hk
    have hnz : ¬ n = 0 := by omega
    by_cases hm : a % n = 0
    · have HV := Lib.hid (show acE size k a n sl = 0 by unfold acE; rw [if_neg (by rw [hz]; decide), if_neg (by omega), if_neg (by omega)])
      have dm : (a % n != 0) = false := by simp [hm]
      clear hz hm h48
      go_enter Tryz.func56, Tryz.ntmps56
      go_wp2_with fail
      refine (sized_any k a n v x s0 sl sc _).mono ?_
      rintro e w1 ⟨rfl, b1⟩
      rw [HZ.out]
      obtain ⟨f0, f1, f2, f3, f4, f5⟩ := cells6b b1
      go_wp2
      go_ret
      exact ⟨ret_int (by rw [HV.out]), Below.trans (by go_grown) (b1.mono (by simp))⟩
    · have HV := Lib.hid (show acE size k a n sl = 3 by unfold acE; rw [if_neg (by rw [hz]; decide), if_neg (by omega), if_pos ⟨hk, hm⟩])
      have dm : (a % n != 0) = true := by simpa using hm
      clear hz hm h48
      go_enter Tryz.func56, Tryz.ntmps56
      go_wp2_with fail
      refine (sized_any k a n v x s0 sl sc _).mono ?_
      rintro e w1 ⟨rfl, b1⟩
      rw [HZ.out]
      obtain ⟨f0, f1, f2, f3, f4, f5⟩ := cells6b b1
      go_wp2
      go_ret
      exact ⟨ret_int (by rw [HV.out]), Below.trans (by go_grown) (b1.mono (by simp))⟩
  · have HV := Lib.hid (show acE size k a n sl = 0 by unfold acE; rw [if_neg (by rw [hz]; decide), if_neg (by omega), if_neg (by omega)])
    clear hz
    go_enter Tryz.func56, Tryz.ntmps56
    go_wp2_with fail
    refine (sized_any k a n v x s0 sl sc _).mono ?_
    rintro e w1 ⟨rfl, b1⟩
    rw [HZ.out]
    obtain ⟨f0, f1, f2, f3, f4, f5⟩ := cells6b b1
    go_wp2
    go_ret
    exact ⟨ret_int (by rw [HV.out]), Below.trans (by go_grown) (b1.mono (by simp))⟩
end Go.Proofs.YtpicplkbblmbeaaGreat
