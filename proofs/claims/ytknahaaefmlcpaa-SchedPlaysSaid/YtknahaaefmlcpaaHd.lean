/- Contracts of the reference's headers: bytes, signed, Split, Record. Conditions: the arguments are in their kinds' ranges. Contracts of the package head, of its reference, and of the law's fixed facts. Conditions: the arguments are in their kinds' ranges. -/
import Derived.Test.YtknahaaefmlcpaaRw
import Derived.Test.YtknahaaefmlcpaaWb
section
namespace Go.Proofs.Ytknahaaefmlcpaa
set_option maxRecDepth 100000
open Go.RowKit
set_option linter.unusedVariables false

end Go.Proofs.Ytknahaaefmlcpaa
end
section
namespace Go.Proofs.Ytknahaaefmlcpaa
set_option maxRecDepth 100000
open Go.RowKit
set_option linter.unusedVariables false
theorem or_join (x y : Int) (i : Nat) (hx : 0 ≤ x) (hx' : x < 18446744073709551616) (hy : 0 ≤ y) (hm : x % 2 ^ i = 0) (hy' : y < 2 ^ i) (hi : i ≤ 64) : bits .or .u64 x y = x + y := by
  have h64 : (2 : Int) ^ i ≤ 2 ^ 64 := by exact_mod_cast Nat.pow_le_pow_right (by decide) hi
  rw [u64_or x y hx hx' hy (by have : (2 : Int) ^ 64 = 18446744073709551616 := by decide
                               omega)]
  rw [nat_join i]
  · omega
  · have : ((x.toNat % 2 ^ i : Nat) : Int) = x % 2 ^ i := by simp [Int.toNat_of_nonneg hx]
    omega
  · have : ((2 ^ i : Nat) : Int) = 2 ^ i := by simp
    omega
theorem record_or (a0 a1 : Int) : bits .or .u64 (a1 % 4294967296 * 4294967296) (a0 % 4294967296) = recS a0 a1 := by
  rw [or_join _ _ 32 (by omega) (by omega) (by omega) (by omega) (by omega) (by omega)]
  rfl
/-- head.Record -/
theorem record_any (a0 a1 : Int) (w : World) :
    Calls Try.prog 117 #[.int .i32 a0, .int .i32 a1] w fun e w' => e = .returned (.int .u64 (recS a0 a1)) ∧ w = w' := by
  go_enter Try.func117, Try.ntmps117
  go_wp2
  go_ret
  exact ⟨ret_int (record_or _ _), rfl⟩
/-- head.Split -/
theorem split_any (a0 : Int) (w : World) (h0 : 0 ≤ a0) (h1 : a0 ≤ 18446744073709551615) :
    Calls Try.prog 87 #[.int .u64 a0] w fun e w' => e = .returned (.tuple #[.int .i32 (loS a0), .int .i32 (hiS a0)]) ∧ w = w' := by
  go_enter Try.func87, Try.ntmps87
  go_wp2
  go_ret2
  exact ⟨by simp [loS, hiS], rfl⟩
set_option maxHeartbeats 1000000 in
theorem size_any (n h to : Int) (w : World) (h0 : 0 ≤ h) (h1 : h ≤ 1000) (ht0 : 0 ≤ to) (ht : to ≤ 1000) :
    Calls Try.prog 97 #[.int .i64 n, .int .i64 h, .int .i64 to] w fun e w' => e = .returned (.tuple #[.int .i64 (szV n h to), .int .i64 (szE n h to)]) ∧ w = w' := by
  by_cases c1 : n < 0
  · have HV := Lib.hid (show szV n h to = 0 ∧ szE n h to = 1 by unfold szV szE szBad; simp [c1])
    go_enter Try.func97, Try.ntmps97
    go_wp2_with fail
    go_ret2
    exact ⟨by rw [HV.out.1, HV.out.2]; rfl, rfl⟩
  by_cases c2 : 131072 < n
  · have HV := Lib.hid (show szV n h to = 0 ∧ szE n h to = 1 by unfold szV szE szBad; simp [c2])
    go_enter Try.func97, Try.ntmps97
    go_wp2_with fail
    go_ret2
    exact ⟨by rw [HV.out.1, HV.out.2]; rfl, rfl⟩
  have HV := Lib.hid (show szV n h to = alV (n + h) to ∧ szE n h to = alE (n + h) to by unfold szV szE szBad; simp [c1, c2])
  go_enter Try.func97, Try.ntmps97
  go_wp2_with fail
  refine (align_any _ _ _ (by omega)).mono ?_
  rintro e w' ⟨rfl, rfl⟩
  go_wp2_with fail
  go_ret2
  exact ⟨by rw [HV.out.1, HV.out.2]; rfl, rfl⟩
theorem recordSize_any (n : Int) (w : World) :
    Calls Try.prog 77 #[.int .i64 n] w fun e w' => e = .returned (.tuple #[.int .i64 (szV n 8 8), .int .i64 (szE n 8 8)]) ∧ w = w' := by
  go_enter Try.func77, Try.ntmps77
  go_wp2_with fail
  refine (size_any n 8 8 _ (by omega) (by omega) (by omega) (by omega)).mono ?_
  rintro e w' ⟨rfl, rfl⟩
  go_wp2_with fail
  go_ret2
  exact ⟨rfl, rfl⟩
/-- The flags. -/
def flS (b e : Bool) : Int := (if b = true then 128 else 0) + if e = true then 64 else 0
end Go.Proofs.Ytknahaaefmlcpaa
end
