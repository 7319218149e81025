/- The reference's memory: Check, low, Do. Conditions: numbers of their kinds, as each says. -/
import Derived.Test.YtknahaaefmlcpaaBm
import Derived.Test.YtknahaaefmlcpaaRw
import Derived.Test.YtknahaaefmlcpaaKe
import Derived.Test.YtknahaaefmlcpaaSc
namespace Go.Proofs.Ytknahaaefmlcpaa
set_option maxRecDepth 100000
open Go.RowKit
set_option linter.unusedVariables false
set_option linter.unusedSimpArgs false
theorem acE_bad {size k a n l : Int} (h : acSized k n l = false) : acE size k a n l = 1 := by unfold acE; rw [if_pos h]
theorem acE_far {size k a n l : Int} (h : acSized k n l = true) (h2 : a < 0 ∨ size < a ∨ size - a < n) : acE size k a n l = 2 := by unfold acE; rw [if_neg (by rw [h]; decide), if_pos h2]
theorem acE_ask {size k a n l : Int} (h : acSized k n l = true) (h2 : ¬ (a < 0 ∨ size < a ∨ size - a < n)) (h3 : k < 5 ∧ a % n ≠ 0) : acE size k a n l = 3 := by unfold acE; rw [if_neg (by rw [h]; decide), if_neg h2, if_pos h3]
theorem acE_good {size k a n l : Int} (h : acSized k n l = true) (h2 : ¬ (a < 0 ∨ size < a ∨ size - a < n)) (h3 : ¬ (k < 5 ∧ a % n ≠ 0)) : acE size k a n l = 0 := by unfold acE; rw [if_neg (by rw [h]; decide), if_neg h2, if_neg h3]
set_option maxHeartbeats 2000000 in
theorem rCk1_4 (size a v x : Int) (s0 : Option Addr) (sl sc : Nat) (w : World) (hs : 0 ≤ size) (hs' : size ≤ 131072) :
    Calls Try.prog 70 #[.int .i64 size, .agg #[.int .i64 1, .int .i64 a, .int .i64 4, .int .u64 v, .int .u64 x, .slice s0 sl sc]] w fun e w' => e = .returned (.int .i64 (acE size 1 a 4 sl)) ∧ Below w.heap.size w w' := by
  have hz : acSized 1 4 sl = true := by simp [acSized]
  by_cases ha : a < 0
  · have HV := Lib.hid (acE_far (size := size) (a := a) hz (.inl ha))
    clear hz
    go_enter Try.func70, Try.ntmps70
    go_wp2
    go_ret
    exact ⟨ret_int (by rw [HV.out]), by go_grown⟩
  by_cases hb : size < a
  · have HV := Lib.hid (acE_far (size := size) (a := a) hz (.inr (.inl hb)))
    clear hz
    go_enter Try.func70, Try.ntmps70
    go_wp2
    go_ret
    exact ⟨ret_int (by rw [HV.out]), by go_grown⟩
  have W : IntKind.i64.wrap (size - a) = size - a := IntWalk.i64_in _ ⟨by omega, by omega⟩
  by_cases hc : size - a < 4
  · have HV := Lib.hid (acE_far (size := size) (a := a) hz (.inr (.inr hc)))
    clear hz
    go_enter Try.func70, Try.ntmps70
    go_wp2
    go_ret
    exact ⟨ret_int (by rw [HV.out]), by go_grown⟩
  have ht : a.tmod 4 = a % 4 := Int.tmod_eq_emod_of_nonneg (by omega)
  by_cases hd : a % 4 = 0
  · have HV := Lib.hid (acE_good (size := size) (a := a) hz (by omega) (fun h => h.2 hd))
    rw [hd] at ht
    clear hz hd
    go_enter Try.func70, Try.ntmps70
    go_wp2
    go_ret
    exact ⟨ret_int (by rw [HV.out]), by go_grown⟩
  have HV := Lib.hid (acE_ask (size := size) (a := a) hz (by omega) ⟨by decide, hd⟩)
  have dm : (a % 4 != 0) = true := by simpa using hd
  have dm2 : (a.tmod 4 != 0) = true := by rw [ht]; exact dm
  clear hz hd
  go_enter Try.func70, Try.ntmps70
  go_wp2
  go_ret
  exact ⟨ret_int (by rw [HV.out]), by go_grown⟩
set_option maxHeartbeats 2000000 in
theorem rCk1_8 (size a v x : Int) (s0 : Option Addr) (sl sc : Nat) (w : World) (hs : 0 ≤ size) (hs' : size ≤ 131072) :
    Calls Try.prog 70 #[.int .i64 size, .agg #[.int .i64 1, .int .i64 a, .int .i64 8, .int .u64 v, .int .u64 x, .slice s0 sl sc]] w fun e w' => e = .returned (.int .i64 (acE size 1 a 8 sl)) ∧ Below w.heap.size w w' := by
  have hz : acSized 1 8 sl = true := by simp [acSized]
  by_cases ha : a < 0
  · have HV := Lib.hid (acE_far (size := size) (a := a) hz (.inl ha))
    clear hz
    go_enter Try.func70, Try.ntmps70
    go_wp2
    go_ret
    exact ⟨ret_int (by rw [HV.out]), by go_grown⟩
  by_cases hb : size < a
  · have HV := Lib.hid (acE_far (size := size) (a := a) hz (.inr (.inl hb)))
    clear hz
    go_enter Try.func70, Try.ntmps70
    go_wp2
    go_ret
    exact ⟨ret_int (by rw [HV.out]), by go_grown⟩
  have W : IntKind.i64.wrap (size - a) = size - a := IntWalk.i64_in _ ⟨by omega, by omega⟩
  by_cases hc : size - a < 8
  · have HV := Lib.hid (acE_far (size := size) (a := a) hz (.inr (.inr hc)))
    clear hz
    go_enter Try.func70, Try.ntmps70
    go_wp2
    go_ret
    exact ⟨ret_int (by rw [HV.out]), by go_grown⟩
  have ht : a.tmod 8 = a % 8 := Int.tmod_eq_emod_of_nonneg (by omega)
  by_cases hd : a % 8 = 0
  · have HV := Lib.hid (acE_good (size := size) (a := a) hz (by omega) (fun h => h.2 hd))
    rw [hd] at ht
    clear hz hd
    go_enter Try.func70, Try.ntmps70
    go_wp2
    go_ret
    exact ⟨ret_int (by rw [HV.out]), by go_grown⟩
  have HV := Lib.hid (acE_ask (size := size) (a := a) hz (by omega) ⟨by decide, hd⟩)
  have dm : (a % 8 != 0) = true := by simpa using hd
  have dm2 : (a.tmod 8 != 0) = true := by rw [ht]; exact dm
  clear hz hd
  go_enter Try.func70, Try.ntmps70
  go_wp2
  go_ret
  exact ⟨ret_int (by rw [HV.out]), by go_grown⟩
set_option maxHeartbeats 2000000 in
theorem rCk1_x (size a n v x : Int) (s0 : Option Addr) (sl sc : Nat) (w : World) (hn : ¬ (n = 4 ∨ n = 8)) :
    Calls Try.prog 70 #[.int .i64 size, .agg #[.int .i64 1, .int .i64 a, .int .i64 n, .int .u64 v, .int .u64 x, .slice s0 sl sc]] w fun e w' => e = .returned (.int .i64 (acE size 1 a n sl)) ∧ Below w.heap.size w w' := by
  have HV := Lib.hid (acE_bad (size := size) (a := a) (show acSized 1 n sl = false by simp [acSized]; omega))
  have d4 : (n != 4) = true := by simp; omega
  have d8 : (n != 8) = true := by simp; omega
  clear hn
  go_enter Try.func70, Try.ntmps70
  go_wp2
  go_ret
  exact ⟨ret_int (by rw [HV.out]), by go_grown⟩
set_option maxHeartbeats 2000000 in
theorem rCk2_4 (size a v x : Int) (s0 : Option Addr) (sl sc : Nat) (w : World) (hs : 0 ≤ size) (hs' : size ≤ 131072) :
    Calls Try.prog 70 #[.int .i64 size, .agg #[.int .i64 2, .int .i64 a, .int .i64 4, .int .u64 v, .int .u64 x, .slice s0 sl sc]] w fun e w' => e = .returned (.int .i64 (acE size 2 a 4 sl)) ∧ Below w.heap.size w w' := by
  have hz : acSized 2 4 sl = true := by simp [acSized]
  by_cases ha : a < 0
  · have HV := Lib.hid (acE_far (size := size) (a := a) hz (.inl ha))
    clear hz
    go_enter Try.func70, Try.ntmps70
    go_wp2
    go_ret
    exact ⟨ret_int (by rw [HV.out]), by go_grown⟩
  by_cases hb : size < a
  · have HV := Lib.hid (acE_far (size := size) (a := a) hz (.inr (.inl hb)))
    clear hz
    go_enter Try.func70, Try.ntmps70
    go_wp2
    go_ret
    exact ⟨ret_int (by rw [HV.out]), by go_grown⟩
  have W : IntKind.i64.wrap (size - a) = size - a := IntWalk.i64_in _ ⟨by omega, by omega⟩
  by_cases hc : size - a < 4
  · have HV := Lib.hid (acE_far (size := size) (a := a) hz (.inr (.inr hc)))
    clear hz
    go_enter Try.func70, Try.ntmps70
    go_wp2
    go_ret
    exact ⟨ret_int (by rw [HV.out]), by go_grown⟩
  have ht : a.tmod 4 = a % 4 := Int.tmod_eq_emod_of_nonneg (by omega)
  by_cases hd : a % 4 = 0
  · have HV := Lib.hid (acE_good (size := size) (a := a) hz (by omega) (fun h => h.2 hd))
    rw [hd] at ht
    clear hz hd
    go_enter Try.func70, Try.ntmps70
    go_wp2
    go_ret
    exact ⟨ret_int (by rw [HV.out]), by go_grown⟩
  have HV := Lib.hid (acE_ask (size := size) (a := a) hz (by omega) ⟨by decide, hd⟩)
  have dm : (a % 4 != 0) = true := by simpa using hd
  have dm2 : (a.tmod 4 != 0) = true := by rw [ht]; exact dm
  clear hz hd
  go_enter Try.func70, Try.ntmps70
  go_wp2
  go_ret
  exact ⟨ret_int (by rw [HV.out]), by go_grown⟩
set_option maxHeartbeats 2000000 in
theorem rCk2_8 (size a v x : Int) (s0 : Option Addr) (sl sc : Nat) (w : World) (hs : 0 ≤ size) (hs' : size ≤ 131072) :
    Calls Try.prog 70 #[.int .i64 size, .agg #[.int .i64 2, .int .i64 a, .int .i64 8, .int .u64 v, .int .u64 x, .slice s0 sl sc]] w fun e w' => e = .returned (.int .i64 (acE size 2 a 8 sl)) ∧ Below w.heap.size w w' := by
  have hz : acSized 2 8 sl = true := by simp [acSized]
  by_cases ha : a < 0
  · have HV := Lib.hid (acE_far (size := size) (a := a) hz (.inl ha))
    clear hz
    go_enter Try.func70, Try.ntmps70
    go_wp2
    go_ret
    exact ⟨ret_int (by rw [HV.out]), by go_grown⟩
  by_cases hb : size < a
  · have HV := Lib.hid (acE_far (size := size) (a := a) hz (.inr (.inl hb)))
    clear hz
    go_enter Try.func70, Try.ntmps70
    go_wp2
    go_ret
    exact ⟨ret_int (by rw [HV.out]), by go_grown⟩
  have W : IntKind.i64.wrap (size - a) = size - a := IntWalk.i64_in _ ⟨by omega, by omega⟩
  by_cases hc : size - a < 8
  · have HV := Lib.hid (acE_far (size := size) (a := a) hz (.inr (.inr hc)))
    clear hz
    go_enter Try.func70, Try.ntmps70
    go_wp2
    go_ret
    exact ⟨ret_int (by rw [HV.out]), by go_grown⟩
  have ht : a.tmod 8 = a % 8 := Int.tmod_eq_emod_of_nonneg (by omega)
  by_cases hd : a % 8 = 0
  · have HV := Lib.hid (acE_good (size := size) (a := a) hz (by omega) (fun h => h.2 hd))
    rw [hd] at ht
    clear hz hd
    go_enter Try.func70, Try.ntmps70
    go_wp2
    go_ret
    exact ⟨ret_int (by rw [HV.out]), by go_grown⟩
  have HV := Lib.hid (acE_ask (size := size) (a := a) hz (by omega) ⟨by decide, hd⟩)
  have dm : (a % 8 != 0) = true := by simpa using hd
  have dm2 : (a.tmod 8 != 0) = true := by rw [ht]; exact dm
  clear hz hd
  go_enter Try.func70, Try.ntmps70
  go_wp2
  go_ret
  exact ⟨ret_int (by rw [HV.out]), by go_grown⟩
set_option maxHeartbeats 2000000 in
theorem rCk2_x (size a n v x : Int) (s0 : Option Addr) (sl sc : Nat) (w : World) (hn : ¬ (n = 4 ∨ n = 8)) :
    Calls Try.prog 70 #[.int .i64 size, .agg #[.int .i64 2, .int .i64 a, .int .i64 n, .int .u64 v, .int .u64 x, .slice s0 sl sc]] w fun e w' => e = .returned (.int .i64 (acE size 2 a n sl)) ∧ Below w.heap.size w w' := by
  have HV := Lib.hid (acE_bad (size := size) (a := a) (show acSized 2 n sl = false by simp [acSized]; omega))
  have d4 : (n != 4) = true := by simp; omega
  have d8 : (n != 8) = true := by simp; omega
  clear hn
  go_enter Try.func70, Try.ntmps70
  go_wp2
  go_ret
  exact ⟨ret_int (by rw [HV.out]), by go_grown⟩
set_option maxHeartbeats 2000000 in
theorem rCk4_4 (size a v x : Int) (s0 : Option Addr) (sl sc : Nat) (w : World) (hs : 0 ≤ size) (hs' : size ≤ 131072) :
    Calls Try.prog 70 #[.int .i64 size, .agg #[.int .i64 4, .int .i64 a, .int .i64 4, .int .u64 v, .int .u64 x, .slice s0 sl sc]] w fun e w' => e = .returned (.int .i64 (acE size 4 a 4 sl)) ∧ Below w.heap.size w w' := by
  have hz : acSized 4 4 sl = true := by simp [acSized]
  by_cases ha : a < 0
  · have HV := Lib.hid (acE_far (size := size) (a := a) hz (.inl ha))
    clear hz
    go_enter Try.func70, Try.ntmps70
    go_wp2
    go_ret
    exact ⟨ret_int (by rw [HV.out]), by go_grown⟩
  by_cases hb : size < a
  · have HV := Lib.hid (acE_far (size := size) (a := a) hz (.inr (.inl hb)))
    clear hz
    go_enter Try.func70, Try.ntmps70
    go_wp2
    go_ret
    exact ⟨ret_int (by rw [HV.out]), by go_grown⟩
  have W : IntKind.i64.wrap (size - a) = size - a := IntWalk.i64_in _ ⟨by omega, by omega⟩
  by_cases hc : size - a < 4
  · have HV := Lib.hid (acE_far (size := size) (a := a) hz (.inr (.inr hc)))
    clear hz
    go_enter Try.func70, Try.ntmps70
    go_wp2
    go_ret
    exact ⟨ret_int (by rw [HV.out]), by go_grown⟩
  have ht : a.tmod 4 = a % 4 := Int.tmod_eq_emod_of_nonneg (by omega)
  by_cases hd : a % 4 = 0
  · have HV := Lib.hid (acE_good (size := size) (a := a) hz (by omega) (fun h => h.2 hd))
    rw [hd] at ht
    clear hz hd
    go_enter Try.func70, Try.ntmps70
    go_wp2
    go_ret
    exact ⟨ret_int (by rw [HV.out]), by go_grown⟩
  have HV := Lib.hid (acE_ask (size := size) (a := a) hz (by omega) ⟨by decide, hd⟩)
  have dm : (a % 4 != 0) = true := by simpa using hd
  have dm2 : (a.tmod 4 != 0) = true := by rw [ht]; exact dm
  clear hz hd
  go_enter Try.func70, Try.ntmps70
  go_wp2
  go_ret
  exact ⟨ret_int (by rw [HV.out]), by go_grown⟩
set_option maxHeartbeats 2000000 in
theorem rCk4_8 (size a v x : Int) (s0 : Option Addr) (sl sc : Nat) (w : World) (hs : 0 ≤ size) (hs' : size ≤ 131072) :
    Calls Try.prog 70 #[.int .i64 size, .agg #[.int .i64 4, .int .i64 a, .int .i64 8, .int .u64 v, .int .u64 x, .slice s0 sl sc]] w fun e w' => e = .returned (.int .i64 (acE size 4 a 8 sl)) ∧ Below w.heap.size w w' := by
  have hz : acSized 4 8 sl = true := by simp [acSized]
  by_cases ha : a < 0
  · have HV := Lib.hid (acE_far (size := size) (a := a) hz (.inl ha))
    clear hz
    go_enter Try.func70, Try.ntmps70
    go_wp2
    go_ret
    exact ⟨ret_int (by rw [HV.out]), by go_grown⟩
  by_cases hb : size < a
  · have HV := Lib.hid (acE_far (size := size) (a := a) hz (.inr (.inl hb)))
    clear hz
    go_enter Try.func70, Try.ntmps70
    go_wp2
    go_ret
    exact ⟨ret_int (by rw [HV.out]), by go_grown⟩
  have W : IntKind.i64.wrap (size - a) = size - a := IntWalk.i64_in _ ⟨by omega, by omega⟩
  by_cases hc : size - a < 8
  · have HV := Lib.hid (acE_far (size := size) (a := a) hz (.inr (.inr hc)))
    clear hz
    go_enter Try.func70, Try.ntmps70
    go_wp2
    go_ret
    exact ⟨ret_int (by rw [HV.out]), by go_grown⟩
  have ht : a.tmod 8 = a % 8 := Int.tmod_eq_emod_of_nonneg (by omega)
  by_cases hd : a % 8 = 0
  · have HV := Lib.hid (acE_good (size := size) (a := a) hz (by omega) (fun h => h.2 hd))
    rw [hd] at ht
    clear hz hd
    go_enter Try.func70, Try.ntmps70
    go_wp2
    go_ret
    exact ⟨ret_int (by rw [HV.out]), by go_grown⟩
  have HV := Lib.hid (acE_ask (size := size) (a := a) hz (by omega) ⟨by decide, hd⟩)
  have dm : (a % 8 != 0) = true := by simpa using hd
  have dm2 : (a.tmod 8 != 0) = true := by rw [ht]; exact dm
  clear hz hd
  go_enter Try.func70, Try.ntmps70
  go_wp2
  go_ret
  exact ⟨ret_int (by rw [HV.out]), by go_grown⟩
set_option maxHeartbeats 2000000 in
theorem rCk4_x (size a n v x : Int) (s0 : Option Addr) (sl sc : Nat) (w : World) (hn : ¬ (n = 4 ∨ n = 8)) :
    Calls Try.prog 70 #[.int .i64 size, .agg #[.int .i64 4, .int .i64 a, .int .i64 n, .int .u64 v, .int .u64 x, .slice s0 sl sc]] w fun e w' => e = .returned (.int .i64 (acE size 4 a n sl)) ∧ Below w.heap.size w w' := by
  have HV := Lib.hid (acE_bad (size := size) (a := a) (show acSized 4 n sl = false by simp [acSized]; omega))
  have d4 : (n != 4) = true := by simp; omega
  have d8 : (n != 8) = true := by simp; omega
  clear hn
  go_enter Try.func70, Try.ntmps70
  go_wp2
  go_ret
  exact ⟨ret_int (by rw [HV.out]), by go_grown⟩
set_option maxHeartbeats 2000000 in
theorem rCk3_8 (size a v x : Int) (s0 : Option Addr) (sl sc : Nat) (w : World) (hs : 0 ≤ size) (hs' : size ≤ 131072) :
    Calls Try.prog 70 #[.int .i64 size, .agg #[.int .i64 3, .int .i64 a, .int .i64 8, .int .u64 v, .int .u64 x, .slice s0 sl sc]] w fun e w' => e = .returned (.int .i64 (acE size 3 a 8 sl)) ∧ Below w.heap.size w w' := by
  have hz : acSized 3 8 sl = true := by simp [acSized]
  by_cases ha : a < 0
  · have HV := Lib.hid (acE_far (size := size) (a := a) hz (.inl ha))
    clear hz
    go_enter Try.func70, Try.ntmps70
    go_wp2
    go_ret
    exact ⟨ret_int (by rw [HV.out]), by go_grown⟩
  by_cases hb : size < a
  · have HV := Lib.hid (acE_far (size := size) (a := a) hz (.inr (.inl hb)))
    clear hz
    go_enter Try.func70, Try.ntmps70
    go_wp2
    go_ret
    exact ⟨ret_int (by rw [HV.out]), by go_grown⟩
  have W : IntKind.i64.wrap (size - a) = size - a := IntWalk.i64_in _ ⟨by omega, by omega⟩
  by_cases hc : size - a < 8
  · have HV := Lib.hid (acE_far (size := size) (a := a) hz (.inr (.inr hc)))
    clear hz
    go_enter Try.func70, Try.ntmps70
    go_wp2
    go_ret
    exact ⟨ret_int (by rw [HV.out]), by go_grown⟩
  have ht : a.tmod 8 = a % 8 := Int.tmod_eq_emod_of_nonneg (by omega)
  by_cases hd : a % 8 = 0
  · have HV := Lib.hid (acE_good (size := size) (a := a) hz (by omega) (fun h => h.2 hd))
    rw [hd] at ht
    clear hz hd
    go_enter Try.func70, Try.ntmps70
    go_wp2
    go_ret
    exact ⟨ret_int (by rw [HV.out]), by go_grown⟩
  have HV := Lib.hid (acE_ask (size := size) (a := a) hz (by omega) ⟨by decide, hd⟩)
  have dm : (a % 8 != 0) = true := by simpa using hd
  have dm2 : (a.tmod 8 != 0) = true := by rw [ht]; exact dm
  clear hz hd
  go_enter Try.func70, Try.ntmps70
  go_wp2
  go_ret
  exact ⟨ret_int (by rw [HV.out]), by go_grown⟩
set_option maxHeartbeats 2000000 in
theorem rCk3_x (size a n v x : Int) (s0 : Option Addr) (sl sc : Nat) (w : World) (hn : ¬ (n = 8)) :
    Calls Try.prog 70 #[.int .i64 size, .agg #[.int .i64 3, .int .i64 a, .int .i64 n, .int .u64 v, .int .u64 x, .slice s0 sl sc]] w fun e w' => e = .returned (.int .i64 (acE size 3 a n sl)) ∧ Below w.heap.size w w' := by
  have HV := Lib.hid (acE_bad (size := size) (a := a) (show acSized 3 n sl = false by simp [acSized]; omega))
  have d8 : (n != 8) = true := by simp; omega
  clear hn
  go_enter Try.func70, Try.ntmps70
  go_wp2
  go_ret
  exact ⟨ret_int (by rw [HV.out]), by go_grown⟩
set_option maxHeartbeats 2000000 in
theorem rCk5_g (size a n v x : Int) (s0 : Option Addr) (sl sc : Nat) (w : World) (hs : 0 ≤ size) (hs' : size ≤ 131072) (hn : 0 ≤ n ∧ n ≤ 8) :
    Calls Try.prog 70 #[.int .i64 size, .agg #[.int .i64 5, .int .i64 a, .int .i64 n, .int .u64 v, .int .u64 x, .slice s0 sl sc]] w fun e w' => e = .returned (.int .i64 (acE size 5 a n sl)) ∧ Below w.heap.size w w' := by
  have hz : acSized 5 n sl = true := by simp [acSized]; omega
  have n1 : ¬ n < 0 := by omega
  have n2 : ¬ 8 < n := by omega
  by_cases ha : a < 0
  · have HV := Lib.hid (acE_far (size := size) (a := a) hz (.inl ha))
    clear hz
    go_enter Try.func70, Try.ntmps70
    go_wp2
    go_ret
    exact ⟨ret_int (by rw [HV.out]), by go_grown⟩
  by_cases hb : size < a
  · have HV := Lib.hid (acE_far (size := size) (a := a) hz (.inr (.inl hb)))
    clear hz
    go_enter Try.func70, Try.ntmps70
    go_wp2
    go_ret
    exact ⟨ret_int (by rw [HV.out]), by go_grown⟩
  have W : IntKind.i64.wrap (size - a) = size - a := IntWalk.i64_in _ ⟨by omega, by omega⟩
  by_cases hc : size - a < n
  · have HV := Lib.hid (acE_far (size := size) (a := a) hz (.inr (.inr hc)))
    clear hz
    go_enter Try.func70, Try.ntmps70
    go_wp2
    go_ret
    exact ⟨ret_int (by rw [HV.out]), by go_grown⟩
  have HV := Lib.hid (acE_good (size := size) (a := a) hz (by omega) (fun h => absurd h.1 (by decide)))
  clear hz
  go_enter Try.func70, Try.ntmps70
  go_wp2
  go_ret
  exact ⟨ret_int (by rw [HV.out]), by go_grown⟩
set_option maxHeartbeats 2000000 in
theorem rCk5_x (size a n v x : Int) (s0 : Option Addr) (sl sc : Nat) (w : World) (hn : n < 0 ∨ 8 < n) :
    Calls Try.prog 70 #[.int .i64 size, .agg #[.int .i64 5, .int .i64 a, .int .i64 n, .int .u64 v, .int .u64 x, .slice s0 sl sc]] w fun e w' => e = .returned (.int .i64 (acE size 5 a n sl)) ∧ Below w.heap.size w w' := by
  have HV := Lib.hid (acE_bad (size := size) (a := a) (show acSized 5 n sl = false by simp [acSized]; omega))
  by_cases n1 : n < 0
  · clear hn
    go_enter Try.func70, Try.ntmps70
    go_wp2
    go_ret
    exact ⟨ret_int (by rw [HV.out]), by go_grown⟩
  have n2 : 8 < n := by omega
  clear hn
  go_enter Try.func70, Try.ntmps70
  go_wp2
  go_ret
  exact ⟨ret_int (by rw [HV.out]), by go_grown⟩
set_option maxHeartbeats 2000000 in
theorem rCk6_g (size a v x : Int) (s0 : Option Addr) (sl sc : Nat) (w : World) (hs : 0 ≤ size) (hs' : size ≤ 131072) (hn : sl ≤ 8) :
    Calls Try.prog 70 #[.int .i64 size, .agg #[.int .i64 6, .int .i64 a, .int .i64 (sl : Int), .int .u64 v, .int .u64 x, .slice s0 sl sc]] w fun e w' => e = .returned (.int .i64 (acE size 6 a (sl : Int) sl)) ∧ Below w.heap.size w w' := by
  have hz : acSized 6 (sl : Int) sl = true := by simp [acSized]; omega
  have n2 : ¬ (8 : Int) < (sl : Int) := by omega
  by_cases ha : a < 0
  · have HV := Lib.hid (acE_far (size := size) (a := a) hz (.inl ha))
    clear hz
    go_enter Try.func70, Try.ntmps70
    go_wp2
    go_ret
    exact ⟨ret_int (by rw [HV.out]), by go_grown⟩
  by_cases hb : size < a
  · have HV := Lib.hid (acE_far (size := size) (a := a) hz (.inr (.inl hb)))
    clear hz
    go_enter Try.func70, Try.ntmps70
    go_wp2
    go_ret
    exact ⟨ret_int (by rw [HV.out]), by go_grown⟩
  have W : IntKind.i64.wrap (size - a) = size - a := IntWalk.i64_in _ ⟨by omega, by omega⟩
  by_cases hc : size - a < (sl : Int)
  · have HV := Lib.hid (acE_far (size := size) (a := a) hz (.inr (.inr hc)))
    clear hz
    go_enter Try.func70, Try.ntmps70
    go_wp2
    go_ret
    exact ⟨ret_int (by rw [HV.out]), by go_grown⟩
  have HV := Lib.hid (acE_good (size := size) (a := a) hz (by omega) (fun h => absurd h.1 (by decide)))
  clear hz
  go_enter Try.func70, Try.ntmps70
  go_wp2
  go_ret
  exact ⟨ret_int (by rw [HV.out]), by go_grown⟩
set_option maxHeartbeats 2000000 in
theorem rCk6_x (size a n v x : Int) (s0 : Option Addr) (sl sc : Nat) (w : World) (hn : n ≠ (sl : Int) ∨ 8 < n) :
    Calls Try.prog 70 #[.int .i64 size, .agg #[.int .i64 6, .int .i64 a, .int .i64 n, .int .u64 v, .int .u64 x, .slice s0 sl sc]] w fun e w' => e = .returned (.int .i64 (acE size 6 a n sl)) ∧ Below w.heap.size w w' := by
  have HV := Lib.hid (acE_bad (size := size) (a := a) (show acSized 6 n sl = false by simp [acSized]; omega))
  by_cases n1 : n = (sl : Int)
  · have n2 : (8 : Int) < (sl : Int) := by omega
    subst n1
    clear hn
    go_enter Try.func70, Try.ntmps70
    go_wp2
    go_ret
    exact ⟨ret_int (by rw [HV.out]), by go_grown⟩
  have d : (n != (sl : Int)) = true := by simpa using n1
  clear hn
  go_enter Try.func70, Try.ntmps70
  go_wp2
  go_ret
  exact ⟨ret_int (by rw [HV.out]), by go_grown⟩
set_option maxHeartbeats 2000000 in
theorem rCk_x (size k a n v x : Int) (s0 : Option Addr) (sl sc : Nat) (w : World) (hk : ¬ (k = 1 ∨ k = 2 ∨ k = 3 ∨ k = 4 ∨ k = 5 ∨ k = 6)) :
    Calls Try.prog 70 #[.int .i64 size, .agg #[.int .i64 k, .int .i64 a, .int .i64 n, .int .u64 v, .int .u64 x, .slice s0 sl sc]] w fun e w' => e = .returned (.int .i64 (acE size k a n sl)) ∧ Below w.heap.size w w' := by
  have HV := Lib.hid (acE_bad (size := size) (a := a) (show acSized k n sl = false by unfold acSized; rw [if_neg (by omega), if_neg (by omega), if_neg (by omega), if_neg (by omega)]))
  have d1 : (k == 1) = false := by simp; omega
  have d2 : (k == 2) = false := by simp; omega
  have d3 : (k == 3) = false := by simp; omega
  have d4 : (k == 4) = false := by simp; omega
  have d5 : (k == 5) = false := by simp; omega
  have d6 : (k == 6) = false := by simp; omega
  clear hk
  go_enter Try.func70, Try.ntmps70
  go_wp2
  go_ret
  exact ⟨ret_int (by rw [HV.out]), by go_grown⟩
theorem refCheck_any (size k a n v x : Int) (s0 : Option Addr) (sl sc : Nat) (w : World) (hs : 0 ≤ size) (hs' : size ≤ 131072) :
    Calls Try.prog 70 #[.int .i64 size, .agg #[.int .i64 k, .int .i64 a, .int .i64 n, .int .u64 v, .int .u64 x, .slice s0 sl sc]] w fun e w' => e = .returned (.int .i64 (acE size k a n sl)) ∧ Below w.heap.size w w' := by
  by_cases k1 : k = 1
  · subst k1
    by_cases h : n = 4 ∨ n = 8
    · rcases h with rfl | rfl
      · exact rCk1_4 size a v x s0 sl sc w hs hs'
      · exact rCk1_8 size a v x s0 sl sc w hs hs'
    · exact rCk1_x size a n v x s0 sl sc w h
  by_cases k2 : k = 2
  · subst k2
    by_cases h : n = 4 ∨ n = 8
    · rcases h with rfl | rfl
      · exact rCk2_4 size a v x s0 sl sc w hs hs'
      · exact rCk2_8 size a v x s0 sl sc w hs hs'
    · exact rCk2_x size a n v x s0 sl sc w h
  by_cases k4 : k = 4
  · subst k4
    by_cases h : n = 4 ∨ n = 8
    · rcases h with rfl | rfl
      · exact rCk4_4 size a v x s0 sl sc w hs hs'
      · exact rCk4_8 size a v x s0 sl sc w hs hs'
    · exact rCk4_x size a n v x s0 sl sc w h
  by_cases k3 : k = 3
  · subst k3
    by_cases h : n = 8
    · subst h
      exact rCk3_8 size a v x s0 sl sc w hs hs'
    · exact rCk3_x size a n v x s0 sl sc w h
  by_cases k5 : k = 5
  · subst k5
    by_cases h : 0 ≤ n ∧ n ≤ 8
    · exact rCk5_g size a n v x s0 sl sc w hs hs' h
    · exact rCk5_x size a n v x s0 sl sc w (by omega)
  by_cases k6 : k = 6
  · subst k6
    by_cases h : n = (sl : Int) ∧ n ≤ 8
    · obtain ⟨rfl, h⟩ := h
      exact rCk6_g size a v x s0 sl sc w hs hs' (by omega)
    · exact rCk6_x size a n v x s0 sl sc w (by omega)
  exact rCk_x size k a n v x s0 sl sc w (by omega)
theorem refLow_any (v : Int) (n : Nat) (w : World) (hv : 0 ≤ v) (hv' : v ≤ 18446744073709551615) (hn : n = 4 ∨ n = 8) :
    Calls Try.prog 73 #[.int .u64 v, .int .i64 n] w fun e w' => e = .returned (.int .u64 (v % 256 ^ n)) ∧ w = w' := by
  rcases hn with rfl | rfl
  · have e : (256 : Int) ^ 4 = 4294967296 := by decide
    have ht : v.tmod 4294967296 = v % 4294967296 := Int.tmod_eq_emod_of_nonneg hv
    have W : IntKind.u64.wrap (v % 4294967296) = v % 4294967296 := IntWalk.u64_in _ ⟨by omega, by omega⟩
    have HE := Lib.hid e
    go_enter Try.func73, Try.ntmps73
    go_wp2
    go_ret
    exact ⟨ret_int (by rw [HE.out]), rfl⟩
  · have e : v % (256 : Int) ^ 8 = v := by
      have e9 : (256 : Int) ^ 8 = 18446744073709551616 := by decide
      rw [e9]
      omega
    have HE := Lib.hid e
    go_enter Try.func73, Try.ntmps73
    go_wp2
    go_ret
    exact ⟨ret_int (by rw [HE.out]), rfl⟩
end Go.Proofs.Ytknahaaefmlcpaa
