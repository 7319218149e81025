/- Plain lemmas on bits of int64: powers of two, masks, multiples. Conditions: none. -/
import Derived.WalkKit
import Derived.Test.YtpicplkbblmbeaaGreatPl
namespace Go.Proofs.YtpicplkbblmbeaaGreat
open Go.RowKit
/-- Is it a power of two (below 2^63)? -/
def isP (n : Int) : Bool := (List.range 63).any fun k => (2 : Int) ^ k == n
theorem isP_iff (n : Int) : isP n = true ↔ ∃ k, k ≤ 62 ∧ n = 2 ^ k := by
  unfold isP
  simp only [List.any_eq_true, List.mem_range, beq_iff_eq]
  constructor
  · rintro ⟨k, h, e⟩; exact ⟨k, by omega, e.symm⟩
  · rintro ⟨k, h, e⟩; exact ⟨k, by omega, e.symm⟩
theorem pow62 (k : Nat) (h : k ≤ 62) : 1 ≤ (2 : Int) ^ k ∧ (2 : Int) ^ k ≤ 4611686018427387904 := by
  have h1 : (2 : Int) ^ k ≤ 2 ^ 62 := by exact_mod_cast Nat.pow_le_pow_right (by decide) h
  have h2 : (0 : Int) < 2 ^ k := Int.pow_pos (by decide)
  have h3 : (2 : Int) ^ 62 = 4611686018427387904 := by decide
  omega
theorem ofInt64 (n : Int) : (BitVec.ofInt 64 n).toNat = (n % 18446744073709551616).toNat := by simp [BitVec.toNat_ofInt]
theorem bits_mask (n : Int) (k : Nat) (h : k ≤ 62) : bits .and .i64 n (2 ^ k - 1) = n % 2 ^ k := by
  have hp := pow62 k h
  have hc : ((2 ^ k : Nat) : Int) = (2 : Int) ^ k := by simp
  have e1 : (((2 : Int) ^ k - 1) % 18446744073709551616).toNat = 2 ^ k - 1 := by rw [Int.emod_eq_of_lt (by omega) (by omega)]; omega
  have e2 : (n % 18446744073709551616).toNat % 2 ^ k = (n % 2 ^ k).toNat := by
    have hd : ((2 : Int) ^ k) ∣ 18446744073709551616 := by
      have : (18446744073709551616 : Int) = 2 ^ k * 2 ^ (64 - k) := by rw [← Int.pow_add, show k + (64 - k) = 64 from by omega]; decide
      exact ⟨_, this⟩
    have : (((n % 18446744073709551616).toNat % 2 ^ k : Nat) : Int) = n % 2 ^ k := by
      rw [Int.natCast_emod, Int.toNat_of_nonneg (by omega), hc, Int.emod_emod_of_dvd _ hd]
    omega
  have e3 := Int.emod_nonneg n (show (2 : Int) ^ k ≠ 0 by omega)
  have e4 := Int.emod_lt_of_pos n (show (0 : Int) < 2 ^ k by omega)
  show IntKind.i64.wrap ((BitVec.ofInt 64 n &&& BitVec.ofInt 64 (2 ^ k - 1)).toNat : Nat) = _
  rw [BitVec.toNat_and, ofInt64, ofInt64, e1, Nat.and_two_pow_sub_one_eq_mod, e2, Int.toNat_of_nonneg e3]
  rw [IntWalk.i64_in _ ⟨by omega, by omega⟩]
theorem nat_high (x k : Nat) (hx : x < 2 ^ 64) (hk : k ≤ 62) : x &&& (2 ^ 64 - (2 ^ k - 1 + 1)) = x / 2 ^ k * 2 ^ k := by
  apply Nat.eq_of_testBit_eq
  intro i
  rw [Nat.testBit_and, Nat.testBit_two_pow_sub_succ (by have := Nat.pow_lt_pow_right (a := 2) (by decide) (show k < 64 by omega); omega), Nat.testBit_two_pow_sub_one, Nat.testBit_mul_two_pow, Nat.testBit_div_two_pow]
  by_cases h : k ≤ i
  · rw [show i - k + k = i from by omega]
    by_cases h2 : i < 64
    · simp [h, h2, show ¬ i < k from by omega]
    · have : x.testBit i = false := Nat.testBit_lt_two_pow (Nat.lt_of_lt_of_le hx (Nat.pow_le_pow_right (by decide) (by omega)))
      simp [this]
  · simp [h, show i < k from by omega]
theorem bits_clear (n : Int) (k : Nat) (h : k ≤ 62) (h0 : 0 ≤ n) (h1 : n ≤ 9223372036854775807) : bits .andNot .i64 n (2 ^ k - 1) = n / 2 ^ k * 2 ^ k := by
  have hp := pow62 k h
  have hc : ((2 ^ k : Nat) : Int) = (2 : Int) ^ k := by simp
  have e1 : (((2 : Int) ^ k - 1) % 18446744073709551616).toNat = 2 ^ k - 1 := by rw [Int.emod_eq_of_lt (by omega) (by omega)]; omega
  have e2 : (n % 18446744073709551616).toNat = n.toNat := by rw [Int.emod_eq_of_lt h0 (by omega)]
  show IntKind.i64.wrap ((BitVec.ofInt 64 n &&& ~~~BitVec.ofInt 64 (2 ^ k - 1)).toNat : Nat) = _
  rw [BitVec.toNat_and, BitVec.toNat_not, ofInt64, ofInt64, e1, e2, show 2 ^ 64 - 1 - (2 ^ k - 1) = 2 ^ 64 - (2 ^ k - 1 + 1) from by omega, nat_high _ _ (by omega) h]
  have e3 : ((n.toNat / 2 ^ k * 2 ^ k : Nat) : Int) = n / 2 ^ k * 2 ^ k := by
    rw [Int.natCast_mul, Int.natCast_ediv, hc, Int.toNat_of_nonneg h0]
  rw [e3]
  have e4 := Int.emod_add_mul_ediv n (2 ^ k)
  have e5 := Int.emod_nonneg n (show (2 : Int) ^ k ≠ 0 by omega)
  rw [Int.mul_comm] at e4
  have e6 : 0 ≤ n / 2 ^ k * 2 ^ k := Int.mul_nonneg (Int.ediv_nonneg h0 (by omega)) (by omega)
  exact IntWalk.i64_in _ ⟨by omega, by omega⟩
theorem bits_pow (n : Int) (h0 : 0 < n) (h1 : n ≤ 9223372036854775807) : (bits .and .i64 n (n - 1) == 0) = isP n := by
  have e1 : (n % 18446744073709551616).toNat = n.toNat := by rw [Int.emod_eq_of_lt (by omega) (by omega)]
  have e2 : ((n - 1) % 18446744073709551616).toNat = n.toNat - 1 := by rw [Int.emod_eq_of_lt (by omega) (by omega)]; omega
  have hb : bits .and .i64 n (n - 1) = ((n.toNat &&& (n.toNat - 1) : Nat) : Int) := by
    show IntKind.i64.wrap ((BitVec.ofInt 64 n &&& BitVec.ofInt 64 (n - 1)).toNat : Nat) = _
    rw [BitVec.toNat_and, ofInt64, ofInt64, e1, e2]
    have : n.toNat &&& (n.toNat - 1) ≤ n.toNat := Nat.and_le_left
    exact IntWalk.i64_in _ ⟨by omega, by omega⟩
  rw [hb, Bool.eq_iff_iff, beq_iff_eq, isP_iff]
  have hk := @Nat.and_sub_one_eq_zero_iff_isPowerOfTwo n.toNat (by omega)
  constructor
  · intro h
    obtain ⟨k, e⟩ := hk.1 (by omega)
    have hc : ((2 ^ k : Nat) : Int) = (2 : Int) ^ k := by simp
    refine ⟨k, ?_, by omega⟩
    by_cases hk2 : k ≤ 62
    · exact hk2
    · have := Nat.pow_le_pow_right (n := 2) (by decide) (show 63 ≤ k by omega)
      omega
  · rintro ⟨k, _, e⟩
    have hc : ((2 ^ k : Nat) : Int) = (2 : Int) ^ k := by simp
    have := hk.2 ⟨k, by omega⟩
    omega
theorem isP_neg (n : Int) (h : n ≤ 0) : isP n = false := by
  by_cases e : isP n = true
  · obtain ⟨k, hk, rfl⟩ := (isP_iff n).1 e
    have := pow62 k hk
    omega
  · simpa using e
/-- Of which power is it one (0: of none)? -/
def lg (n : Int) : Int := (((List.range 63).find? fun k => (2 : Int) ^ k == n).getD 0 : Nat)
theorem lg_pow (k : Nat) (h : k ≤ 62) : lg (2 ^ k) = k := by
  have : (List.range 63).all (fun k => lg (2 ^ k) == (k : Int)) = true := by decide +kernel
  have := List.all_eq_true.1 this k (by simp; omega)
  simpa using this
/-- Of which power is it one? -/
def lgS (n : Int) : Int := if isP n = true then lg n else 0
theorem isP_pow (k : Nat) (h : k ≤ 62) : isP (2 ^ k) = true := (isP_iff _).2 ⟨k, h, rfl⟩
theorem lgS_pow (k : Nat) (h : k ≤ 62) : lgS (2 ^ k) = k := by unfold lgS; rw [if_pos (isP_pow k h), lg_pow k h]
/-- 1, doubled k times, as an int64. -/
def pw (k : Nat) : Int := if k ≤ 62 then 2 ^ k else -9223372036854775808
theorem pw_succ (k : Nat) (h : k ≤ 62) : IntKind.i64.wrap (pw k * 2) = pw (k + 1) := by
  have : (List.range 63).all (fun k => IntKind.i64.wrap (pw k * 2) == pw (k + 1)) = true := by decide +kernel
  have := List.all_eq_true.1 this k (by simp; omega)
  simpa using this
theorem isP_none (n : Int) (h : ∀ j, j ≤ 62 → pw j ≠ n) : isP n = false := by
  by_cases e : isP n = true
  · obtain ⟨k, hk, e⟩ := (isP_iff n).1 e
    have := h k hk
    unfold pw at this
    rw [if_pos hk] at this
    exact (this e.symm).elim
  · simpa using e
theorem pw_le (k : Nat) (h : k ≤ 62) : pw k = 2 ^ k := by unfold pw; rw [if_pos h]
/-- The next multiple, and how it ends. -/
def alBad (n to : Int) : Bool := !isP to || decide (n < 0) || decide (4611686018427387904 < n)
def alV (n to : Int) : Int := if alBad n to = true then 0 else if n % to = 0 then n else (n / to + 1) * to
def alE (n to : Int) : Int := if alBad n to = true then 1 else 0
theorem up_le (n : Int) (k : Nat) (hk : k ≤ 62) (h0 : 0 ≤ n) (h1 : n ≤ 4611686018427387904) (hm : n % 2 ^ k ≠ 0) :
    n / 2 ^ k + 1 ≤ 4611686018427387904 / 2 ^ k ∧ 0 ≤ n / 2 ^ k ∧ n / 2 ^ k ≤ n ∧ (n / 2 ^ k + 1) * 2 ^ k ≤ 4611686018427387904 ∧ 0 ≤ (n / 2 ^ k + 1) * 2 ^ k ∧ n / 2 ^ k * 2 ^ k + 2 ^ k = (n / 2 ^ k + 1) * 2 ^ k ∧ n / 2 ^ k * 2 ^ k ≠ n ∧ 0 ≤ n / 2 ^ k * 2 ^ k := by
  have hp := pow62 k hk
  have hq : (4611686018427387904 : Int) = 2 ^ (62 - k) * 2 ^ k := by rw [← Int.pow_add, show 62 - k + k = 62 from by omega]; decide
  have hd : (4611686018427387904 : Int) / 2 ^ k = 2 ^ (62 - k) := by rw [hq, Int.mul_ediv_cancel _ (by omega)]
  have hlt : n < 2 ^ (62 - k) * 2 ^ k := by
    rcases Int.lt_or_eq_of_le h1 with h | h
    · omega
    · rw [h, hq, Int.mul_emod_left] at hm; exact (hm rfl).elim
  have h3 : n / 2 ^ k < 2 ^ (62 - k) := Int.ediv_lt_of_lt_mul (by omega) hlt
  have h4 := Int.ediv_nonneg h0 (show (0 : Int) ≤ 2 ^ k by omega)
  have h5 := Int.ediv_le_self (2 ^ k) h0
  have h6 : (n / 2 ^ k + 1) * 2 ^ k ≤ 2 ^ (62 - k) * 2 ^ k := Int.mul_le_mul_of_nonneg_right (by omega) (by omega)
  have h7 : (n / 2 ^ k + 1) * 2 ^ k = n / 2 ^ k * 2 ^ k + 2 ^ k := by rw [Int.add_mul, Int.one_mul]
  have h8 : 0 ≤ n / 2 ^ k * 2 ^ k := Int.mul_nonneg h4 (by omega)
  have h9 := Int.emod_add_mul_ediv n (2 ^ k)
  rw [Int.mul_comm] at h9
  refine ⟨by omega, h4, h5, by omega, by omega, h7.symm, by omega, h8⟩
theorem even_back (n : Int) (k : Nat) (hm : n % 2 ^ k = 0) : n / 2 ^ k * 2 ^ k = n := by
  have h9 := Int.emod_add_mul_ediv n (2 ^ k)
  rw [Int.mul_comm] at h9
  omega
/-- What something of n bytes takes, with a header, up to a multiple; and how it ends. -/
def szBad (n : Int) : Bool := decide (n < 0) || decide (131072 < n)
def szV (n h to : Int) : Int := if szBad n = true then 0 else alV (n + h) to
def szE (n h to : Int) : Int := if szBad n = true then 1 else alE (n + h) to
theorem or_low (x y : Int) (i : Nat) (hx : 0 ≤ x) (hx' : x < 2 ^ i) (hy : 0 ≤ y) (hy' : y < 18446744073709551616) (hm : y % 2 ^ i = 0) (hi : i ≤ 64) : bits .or .u64 x y = x + y := by
  have h64 : (2 : Int) ^ i ≤ 2 ^ 64 := by exact_mod_cast Nat.pow_le_pow_right (by decide) hi
  have h65 : (2 : Int) ^ 64 = 18446744073709551616 := by decide
  rw [u64_or x y hx (by omega) hy hy', Nat.or_comm, nat_join i]
  · omega
  · have : ((y.toNat % 2 ^ i : Nat) : Int) = y % 2 ^ i := by simp [Int.toNat_of_nonneg hy]
    omega
  · have : ((2 ^ i : Nat) : Int) = 2 ^ i := by simp
    omega
theorem leN_take_succ (l : List Int) (k : Nat) (h : k < l.length) : leN (l.take (k + 1)) = leN (l.take k) + 256 ^ k * gB l k := by
  rw [List.take_succ_eq_append_getElem h, leN_append]
  simp [leN, gB, h, Nat.min_eq_left (Nat.le_of_lt h)]
theorem num_step (l : List Int) (hb : IsB l) (k : Nat) (hk : k < 8) (h : k < l.length) :
    bits .or .u64 (leN (l.take k)) (IntKind.u64.wrap (gB l k * 2 ^ (8 * k))) = leN (l.take (k + 1)) := by
  have e8 : (2 : Int) ^ (8 * k) = 256 ^ k := by rw [Int.pow_mul]; rfl
  have h1 := leN_lt k (l.take k) (by simp; omega) (hb.take k)
  have h2 := hb.getD k
  have hp : (0 : Int) < 256 ^ k := Int.pow_pos (by decide)
  have h3 : gB l k * 256 ^ k ≤ 255 * 256 ^ k := Int.mul_le_mul_of_nonneg_right (by omega) (by omega)
  have h4 : (256 : Int) ^ k ≤ 72057594037927936 := by
    have e : (72057594037927936 : Int) = 256 ^ k * 256 ^ (7 - k) := by rw [← Int.pow_add, show k + (7 - k) = 7 from by omega]; decide
    have e1 : (0 : Int) < 256 ^ (7 - k) := Int.pow_pos (by decide)
    have e2 := Int.mul_le_mul_of_nonneg_left (show (1 : Int) ≤ 256 ^ (7 - k) by omega) (Int.le_of_lt hp)
    omega
  have h6 : 0 ≤ gB l k * 256 ^ k := Int.mul_nonneg h2.1 (by omega)
  rw [e8, IntWalk.u64_in _ ⟨h6, by omega⟩, or_low _ _ (8 * k) h1.1 (by rw [e8]; exact h1.2) h6 (by omega) (by rw [e8, Int.mul_emod_left]) (by omega), leN_take_succ l k h, Int.mul_comm (256 ^ k)]
end Go.Proofs.YtpicplkbblmbeaaGreat
