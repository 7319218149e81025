/- Plain lemmas on bits of int64: powers of two, masks, multiples. Conditions: none. Contracts of sync/atomic's methods, in one goroutine. -/
import Derived.WalkKit
import Derived.Test.YtggjhleomocojaaGreatRw
import Derived.Laws.LoneSync
import Derived.Test.YtggjhleomocojaaGreatKc
import Derived.Deep.QuietTactic
import Derived.BigQuiet
import Derived.Laws.Bits64
import Derived.Laws.ShiftsVar
import Derived.Deep.RegionHeld3
section
namespace Go.Proofs.YtggjhleomocojaaGreat
open Go.RowKit
def isP (n : Int) : Bool := (List.range 63).any fun k => (2 : Int) ^ k == n
theorem isP_iff (n : Int) : isP n = true ↔ ∃ k, k ≤ 62 ∧ n = 2 ^ k := by
 unfold isP
 simp only [List.any_eq_true, List.mem_range, beq_iff_eq]
 constructor
 ·rintro ⟨k, h, e⟩; exact ⟨k, by omega, e.symm⟩
 ·rintro ⟨k, h, e⟩; exact ⟨k, by omega, e.symm⟩
theorem pow62 (k : Nat) (h : k ≤ 62) : 1 ≤ (2 : Int) ^ k ∧ (2 : Int) ^ k ≤ 4611686018427387904 := by
 have h1 : (2 : Int) ^ k ≤ 2 ^ 62 := by exact_mod_cast Nat.pow_le_pow_right (by decide) h
 have h2 : (0 : Int) < 2 ^ k := Int.pow_pos (by decide)
 have h3 : (2 : Int) ^ 62 = 4611686018427387904 := by decide
 omega
theorem ofInt64 (n : Int) : (BitVec.ofInt 64 n).toNat = (n % 18446744073709551616).toNat := by simp [BitVec.toNat_ofInt]
theorem bits_mask (n : Int) (k : Nat) (h : k ≤ 62) : bits .and .i64 n (2 ^ k - 1) = n % 2 ^ k := by
 have hp := pow62 k h
 have hc : ((2 ^ k : Nat) : Int) = (2 : Int) ^ k := by simp
 have e1 : (((2 : Int) ^ k - 1) % 18446744073709551616).toNat = 2 ^ k - 1 := by rw [Int.emod_eq_of_lt (by omega) (by omega)]; omega
 have e2 : (n % 18446744073709551616).toNat % 2 ^ k = (n % 2 ^ k).toNat := by
  have hd : ((2 : Int) ^ k) ∣ 18446744073709551616 := by
   have : (18446744073709551616 : Int) = 2 ^ k * 2 ^ (64 - k) := by rw [← Int.pow_add, show k + (64 - k) = 64 from by omega]; decide
   exact ⟨_, this⟩
  have : (((n % 18446744073709551616).toNat % 2 ^ k : Nat) : Int) = n % 2 ^ k := by
   rw [Int.natCast_emod, Int.toNat_of_nonneg (by omega), hc, Int.emod_emod_of_dvd _ hd]
  omega
 have e3 := Int.emod_nonneg n (show (2 : Int) ^ k ≠ 0 by omega)
 have e4 := Int.emod_lt_of_pos n (show (0 : Int) < 2 ^ k by omega)
 show IntKind.i64.wrap ((BitVec.ofInt 64 n &&& BitVec.ofInt 64 (2 ^ k - 1)).toNat : Nat) = _
 rw [BitVec.toNat_and, ofInt64, ofInt64, e1, Nat.and_two_pow_sub_one_eq_mod, e2, Int.toNat_of_nonneg e3]
 rw [IntWalk.i64_in _ ⟨by omega, by omega⟩]
theorem nat_high (x k : Nat) (hx : x < 2 ^ 64) (hk : k ≤ 62) : x &&& (2 ^ 64 - (2 ^ k - 1 + 1)) = x / 2 ^ k * 2 ^ k := by
 apply Nat.eq_of_testBit_eq
 intro i
 rw [Nat.testBit_and, Nat.testBit_two_pow_sub_succ (by have := Nat.pow_lt_pow_right (a := 2) (by decide) (show k < 64 by omega); omega), Nat.testBit_two_pow_sub_one, Nat.testBit_mul_two_pow, Nat.testBit_div_two_pow]
 by_cases h : k ≤ i
 ·rw [show i - k + k = i from by omega]
  by_cases h2 : i < 64
  ·simp [h, h2, show ¬ i < k from by omega]
  ·have : x.testBit i = false := Nat.testBit_lt_two_pow (Nat.lt_of_lt_of_le hx (Nat.pow_le_pow_right (by decide) (by omega)))
   simp [this]
 ·simp [h, show i < k from by omega]
theorem bits_clear (n : Int) (k : Nat) (h : k ≤ 62) (h0 : 0 ≤ n) (h1 : n ≤ 9223372036854775807) : bits .andNot .i64 n (2 ^ k - 1) = n / 2 ^ k * 2 ^ k := by
 have hp := pow62 k h
 have hc : ((2 ^ k : Nat) : Int) = (2 : Int) ^ k := by simp
 have e1 : (((2 : Int) ^ k - 1) % 18446744073709551616).toNat = 2 ^ k - 1 := by rw [Int.emod_eq_of_lt (by omega) (by omega)]; omega
 have e2 : (n % 18446744073709551616).toNat = n.toNat := by rw [Int.emod_eq_of_lt h0 (by omega)]
 show IntKind.i64.wrap ((BitVec.ofInt 64 n &&& ~~~BitVec.ofInt 64 (2 ^ k - 1)).toNat : Nat) = _
 rw [BitVec.toNat_and, BitVec.toNat_not, ofInt64, ofInt64, e1, e2, show 2 ^ 64 - 1 - (2 ^ k - 1) = 2 ^ 64 - (2 ^ k - 1 + 1) from by omega, nat_high _ _ (by omega) h]
 have e3 : ((n.toNat / 2 ^ k * 2 ^ k : Nat) : Int) = n / 2 ^ k * 2 ^ k := by
  rw [Int.natCast_mul, Int.natCast_ediv, hc, Int.toNat_of_nonneg h0]
 rw [e3]
 have e4 := Int.emod_add_mul_ediv n (2 ^ k)
 have e5 := Int.emod_nonneg n (show (2 : Int) ^ k ≠ 0 by omega)
 rw [Int.mul_comm] at e4
 have e6 : 0 ≤ n / 2 ^ k * 2 ^ k := Int.mul_nonneg (Int.ediv_nonneg h0 (by omega)) (by omega)
 exact IntWalk.i64_in _ ⟨by omega, by omega⟩
theorem bits_pow (n : Int) (h0 : 0 < n) (h1 : n ≤ 9223372036854775807) : (bits .and .i64 n (n - 1) == 0) = isP n := by
 have e1 : (n % 18446744073709551616).toNat = n.toNat := by rw [Int.emod_eq_of_lt (by omega) (by omega)]
 have e2 : ((n - 1) % 18446744073709551616).toNat = n.toNat - 1 := by rw [Int.emod_eq_of_lt (by omega) (by omega)]; omega
 have hb : bits .and .i64 n (n - 1) = ((n.toNat &&& (n.toNat - 1) : Nat) : Int) := by
  show IntKind.i64.wrap ((BitVec.ofInt 64 n &&& BitVec.ofInt 64 (n - 1)).toNat : Nat) = _
  rw [BitVec.toNat_and, ofInt64, ofInt64, e1, e2]
  have : n.toNat &&& (n.toNat - 1) ≤ n.toNat := Nat.and_le_left
  exact IntWalk.i64_in _ ⟨by omega, by omega⟩
 rw [hb, Bool.eq_iff_iff, beq_iff_eq, isP_iff]
 have hk := @Nat.and_sub_one_eq_zero_iff_isPowerOfTwo n.toNat (by omega)
 constructor
 ·intro h
  obtain ⟨k, e⟩ := hk.1 (by omega)
  have hc : ((2 ^ k : Nat) : Int) = (2 : Int) ^ k := by simp
  refine ⟨k, ?_, by omega⟩
  by_cases hk2 : k ≤ 62
  ·exact hk2
  ·have := Nat.pow_le_pow_right (n := 2) (by decide) (show 63 ≤ k by omega)
   omega
 ·rintro ⟨k, _, e⟩
  have hc : ((2 ^ k : Nat) : Int) = (2 : Int) ^ k := by simp
  have := hk.2 ⟨k, by omega⟩
  omega
theorem isP_neg (n : Int) (h : n ≤ 0) : isP n = false := by
 by_cases e : isP n = true
 ·obtain ⟨k, hk, rfl⟩ := (isP_iff n).1 e
  have := pow62 k hk
  omega
 ·simpa using e
def lg (n : Int) : Int := (((List.range 63).find? fun k => (2 : Int) ^ k == n).getD 0 : Nat)
def alBad (n to : Int) : Bool := !isP to || decide (n < 0) || decide (4611686018427387904 < n)
def alV (n to : Int) : Int := if alBad n to = true then 0 else if n % to = 0 then n else (n / to + 1) * to
def alE (n to : Int) : Int := if alBad n to = true then 1 else 0
theorem up_le (n : Int) (k : Nat) (hk : k ≤ 62) (h0 : 0 ≤ n) (h1 : n ≤ 4611686018427387904) (hm : n % 2 ^ k ≠ 0) :
  n / 2 ^ k + 1 ≤ 4611686018427387904 / 2 ^ k ∧ 0 ≤ n / 2 ^ k ∧ n / 2 ^ k ≤ n ∧ (n / 2 ^ k + 1) * 2 ^ k ≤ 4611686018427387904 ∧ 0 ≤ (n / 2 ^ k + 1) * 2 ^ k ∧ n / 2 ^ k * 2 ^ k + 2 ^ k = (n / 2 ^ k + 1) * 2 ^ k ∧ n / 2 ^ k * 2 ^ k ≠ n ∧ 0 ≤ n / 2 ^ k * 2 ^ k := by
 have hp := pow62 k hk
 have hq : (4611686018427387904 : Int) = 2 ^ (62 - k) * 2 ^ k := by rw [← Int.pow_add, show 62 - k + k = 62 from by omega]; decide
 have hd : (4611686018427387904 : Int) / 2 ^ k = 2 ^ (62 - k) := by rw [hq, Int.mul_ediv_cancel _ (by omega)]
 have hlt : n < 2 ^ (62 - k) * 2 ^ k := by
  rcases Int.lt_or_eq_of_le h1 with h | h
  ·omega
  ·rw [h, hq, Int.mul_emod_left] at hm; exact (hm rfl).elim
 have h3 : n / 2 ^ k < 2 ^ (62 - k) := Int.ediv_lt_of_lt_mul (by omega) hlt
 have h4 := Int.ediv_nonneg h0 (show (0 : Int) ≤ 2 ^ k by omega)
 have h5 := Int.ediv_le_self (2 ^ k) h0
 have h6 : (n / 2 ^ k + 1) * 2 ^ k ≤ 2 ^ (62 - k) * 2 ^ k := Int.mul_le_mul_of_nonneg_right (by omega) (by omega)
 have h7 : (n / 2 ^ k + 1) * 2 ^ k = n / 2 ^ k * 2 ^ k + 2 ^ k := by rw [Int.add_mul, Int.one_mul]
 have h8 : 0 ≤ n / 2 ^ k * 2 ^ k := Int.mul_nonneg h4 (by omega)
 have h9 := Int.emod_add_mul_ediv n (2 ^ k)
 rw [Int.mul_comm] at h9
 refine ⟨by omega, h4, h5, by omega, by omega, h7.symm, by omega, h8⟩
theorem even_back (n : Int) (k : Nat) (hm : n % 2 ^ k = 0) : n / 2 ^ k * 2 ^ k = n := by
 have h9 := Int.emod_add_mul_ediv n (2 ^ k)
 rw [Int.mul_comm] at h9
 omega
def szBad (n : Int) : Bool := decide (n < 0) || decide (131072 < n)
def szV (n h to : Int) : Int := if szBad n = true then 0 else alV (n + h) to
def szE (n h to : Int) : Int := if szBad n = true then 1 else alE (n + h) to
end Go.Proofs.YtggjhleomocojaaGreat
end
section
section
namespace Go.Proofs.YtggjhleomocojaaGreat
set_option maxRecDepth 100000
open Go.RowKit
set_option linter.unusedVariables false
set_option maxHeartbeats 400000 in
theorem load64_any (c i : Nat) (x : Int) (w : World) (h : w.cell? ⟨c, i, none⟩ = some (.int .u64 x)) :
  Calls Tryz.prog 43 #[.pointer (some ⟨c, i, none⟩)] w fun e w' => e = .returned (.int .u64 x) ∧ w = w' := by
 have hl := run_call_load (P := Tryz.prog) Tryz.func83 (by kernel_rfl) (by kernel_rfl) (by kernel_rfl) .u64 (by kernel_rfl) h
 go_enter Tryz.func43, Tryz.ntmps43
 go_wp2
 go_ret
 exact ⟨rfl, rfl⟩
set_option maxHeartbeats 400000 in
theorem cas64_any (c i : Nat) (old new : Int) (w : World) (h : w.cell? ⟨c, i, none⟩ = some (.int .u64 old)) (hf : w.frozen? ⟨c, i, none⟩ = false) :
  Calls Tryz.prog 169 #[.pointer (some ⟨c, i, none⟩), .int .u64 old, .int .u64 new] w fun e w' => e = .returned (.bool true) ∧ w.setCell ⟨c, i, none⟩ (.int .u64 new) = w' := by
 have hl := run_call_cas_hit (P := Tryz.prog) Tryz.func173 (by kernel_rfl) (by kernel_rfl) (by kernel_rfl) .u64 (by kernel_rfl) (y := new) h hf
 go_enter Tryz.func169, Tryz.ntmps169
 go_wp2
 go_ret
 exact ⟨rfl, rfl⟩
theorem add_run {P : Program} {k : IntKind} (x d : Int) (w : World) : (Op.intArith .add k x d).run P w = .ok (.int k (k.wrap (x + d))) w := rfl
set_option maxHeartbeats 400000 in
theorem add64_any (c i : Nat) (x d : Int) (w : World) (h : w.cell? ⟨c, i, none⟩ = some (.int .u64 x)) (hf : w.frozen? ⟨c, i, none⟩ = false) :
  Calls Tryz.prog 152 #[.pointer (some ⟨c, i, none⟩), .int .u64 d] w fun e w' => e = .returned (.int .u64 (IntKind.u64.wrap (x + d))) ∧ w.setCell ⟨c, i, none⟩ (.int .u64 (IntKind.u64.wrap (x + d))) = w' := by
 obtain ⟨s, hs⟩ : ∃ s, s = IntKind.u64.wrap (x + d) := ⟨_, rfl⟩
 have hl := run_call_add (P := Tryz.prog) Tryz.func166 (by kernel_rfl) (by kernel_rfl) (by kernel_rfl) .u64 (by kernel_rfl) h hf (add_run x d w)
 rw [← hs] at hl ⊢
 clear hs
 go_enter Tryz.func152, Tryz.ntmps152
 go_wp2
 go_ret
 exact ⟨rfl, rfl⟩
set_option maxHeartbeats 400000 in
theorem addI64_any (c i : Nat) (x d : Int) (w : World) (h : w.cell? ⟨c, i, none⟩ = some (.int .i64 x)) (hf : w.frozen? ⟨c, i, none⟩ = false) :
  Calls Tryz.prog 147 #[.pointer (some ⟨c, i, none⟩), .int .i64 d] w fun e w' => e = .returned (.int .i64 (IntKind.i64.wrap (x + d))) ∧ w.setCell ⟨c, i, none⟩ (.int .i64 (IntKind.i64.wrap (x + d))) = w' := by
 obtain ⟨s, hs⟩ : ∃ s, s = IntKind.i64.wrap (x + d) := ⟨_, rfl⟩
 have hl := run_call_add (P := Tryz.prog) Tryz.func164 (by kernel_rfl) (by kernel_rfl) (by kernel_rfl) .i64 (by kernel_rfl) h hf (add_run x d w)
 rw [← hs] at hl ⊢
 clear hs
 go_enter Tryz.func147, Tryz.ntmps147
 go_wp2
 go_ret
 exact ⟨rfl, rfl⟩
def gtV (x m : Int) (o : Nat) : Int := bits .and .u64 (x / 2 ^ (8 * o)) m
def swV (x m v : Int) (o : Nat) : Int := bits .or .u64 (bits .andNot .u64 x (IntKind.u64.wrap (m * 2 ^ (8 * o)))) (IntKind.u64.wrap (bits .and .u64 v m * 2 ^ (8 * o)))
set_option maxHeartbeats 400000 in
theorem get_any (c i o : Nat) (x m : Int) (w : World) (ho : o ≤ 7) (h0 : 0 ≤ x) (h1 : x ≤ 18446744073709551615) (h : w.cell? ⟨c, i, none⟩ = some (.int .u64 x)) :
  Calls Tryz.prog 151 #[.agg #[.pointer (some ⟨c, i, none⟩), .int .u64 (8 * (o : Int)), .int .u64 m]] w fun e w' => e = .returned (.int .u64 (gtV x m o)) ∧ Below w.heap.size w w' := by
 have hlt := World.block_lt_of_cell? w _ h
 go_enter Tryz.func151, Tryz.ntmps151
 go_wp2
 go_quiet ((go_at_call 43; exact quietR (load64_any c i x _ (by go_simp))))
 go_wp2
 go_ret
 exact ⟨rfl, bel_drewN nq (by go_grown)⟩
set_option maxHeartbeats 400000 in
theorem swap_any (c i o : Nat) (ws : List Int) (m v : Int) (w : World) (ho : o ≤ 7) (h0 : 0 ≤ gB ws i) (h1 : gB ws i ≤ 18446744073709551615) (h : WB w c ws) (hi : i < ws.length) :
  Calls Tryz.prog 165 #[.agg #[.pointer (some ⟨c, i, none⟩), .int .u64 (8 * (o : Int)), .int .u64 m], .int .u64 (gB ws i), .int .u64 v] w fun e w' => e = .returned (.bool true) ∧ WB w' c (ws.set i (swV (gB ws i) m v o)) ∧ Keep (· = c) w w' := by
 have hlt := h.lt
 have H := Lib.hid h
 have hcell := h.cell i hi
 have hfr := h.frozen i
 obtain ⟨x, hx⟩ : ∃ x, x = gB ws i := ⟨_, rfl⟩
 rw [← hx] at h0 h1 hcell ⊢
 clear h hx
 go_enter Tryz.func165, Tryz.ntmps165
 go_wp2_with fail
 refine (cas64_any c i x _ _ (by go_simp) (by go_simp)).mono ?_
 rintro e w' ⟨rfl, rfl⟩
 go_wp2
 go_ret
 exact ⟨rfl, Blk.alloc (WB.set H.out i _) _, Keep.alloc (Keep.setCell (M := (· = c)) (Keep.refl _ w) (p := ⟨c, i, none⟩) (.inl rfl) _) _⟩
set_option maxHeartbeats 400000 in
theorem put_any (c i o : Nat) (ws : List Int) (m v : Int) (w : World) (ho : o ≤ 7) (h0 : 0 ≤ gB ws i) (h1 : gB ws i ≤ 18446744073709551615) (h : WB w c ws) (hi : i < ws.length) :
  Calls Tryz.prog 150 #[.agg #[.pointer (some ⟨c, i, none⟩), .int .u64 (8 * (o : Int)), .int .u64 m], .int .u64 v] w fun e w' => e = .returned (.tuple #[]) ∧ WB w' c (ws.set i (swV (gB ws i) m v o)) ∧ Keep (· = c) w w' := by
 have hlt := h.lt
 have H := Lib.hid h
 have hcell := h.cell i hi
 go_enter Tryz.func150, Tryz.ntmps150
 go_wp2_with fail
 refine wp_loop_rounds 1 ?_
 rw [rounds_succ]
 go_wp2_with fail
 have HI := Lib.hid hi
 go_region_held3 (fun w' => w'.cell? ⟨w.heap.size, 0, none⟩ = some (.pointer (some ⟨c, i, none⟩)) ∧ w'.cell? ⟨w.heap.size, 1, none⟩ = some (.int .u64 (8 * (o : Int))) ∧ w'.cell? ⟨w.heap.size, 2, none⟩ = some (.int .u64 m)) (go_keep)
  (first
   | (go_at_call 43; refine (load64_any c i (gB ws i) _ (by go_simp)).mono ?_; rintro e w' ⟨rfl, rfl⟩)
   | (go_at_call 165; refine (swap_any c i o ws m v _ ho h0 h1 (Blk.drew (Blk.alloc H.out _)) HI.out).mono ?_; rintro e w1 ⟨rfl, hw1, hk1⟩; have hz1 := hk1.size; have hc1 := fun o => hk1.cell (b := w.heap.size) o (by simp) (by show ¬ w.heap.size = c; omega)))
 go_wp2_with fail
 go_end0
 exact ⟨rfl, hw1, (((Keep.refl _ w).alloc _).drew).trans hk1⟩
theorem msk_eq (n : Nat) (h : n ≤ 7) : IntKind.u64.wrap (IntKind.u64.wrap (2 ^ (8 * n)) - 1) = 256 ^ n - 1 := by
 match n, h with
 | 0, _ | 1, _ | 2, _ | 3, _ | 4, _ | 5, _ | 6, _ | 7, _ => decide
theorem results_cell1b {fn : Func} {p : Tmp} {ty : TypeId} (h : fn.results = #[.cell p ty]) (tmps : Array Value) (P : Program) (w : World) :
  (results fn tmps).run P w = ((asAddr (tmps.getD p undef)).run P w).andThen fun a w₁ => (loadVar ty a).run P w₁ := by
 simp only [results, h]
 simp [Sem.run_bind, Result.andThen]
set_option maxHeartbeats 400000 in
theorem at_any (p c a n cap : Nat) (cnt : Value) (k : Nat) (w : World) (hb : Blk w p [.slice (some ⟨c, 0, none⟩) k cap, cnt]) (ha : a < 8 * k) (hk : k ≤ 1000000) (hn : n ≤ 8) :
  Calls Tryz.prog 149 #[.pointer (some ⟨p, 0, none⟩), .int .i64 a, .int .i64 n] w fun e w' => e = .returned (.agg #[.pointer (some ⟨c, a / 8, none⟩), .int .u64 (8 * ((a : Int) % 8)), .int .u64 (256 ^ n - 1)]) ∧ Below w.heap.size w w' := by
 have hlt := hb.lt
 have hc0 := hb.cell 0
 simp only [List.getElem?_cons_zero] at hc0
 by_cases h8 : (n : Int) < 8
 ·have HM := Lib.hid (show IntKind.u64.wrap (IntKind.u64.wrap (2 ^ (8 * n)) - 1) = 256 ^ n - 1 from msk_eq n (by omega))
  go_enter Tryz.func149, Tryz.ntmps149
  go_wp2_with fail
  (try simp only [Exit.inBlock, Exit.then])
  refine bodyPost_ret ?_ rfl ⟨rfl, by go_grown⟩
  rw [results_cell1b rfl]
  go_simp
  exact HM.out
 ·obtain rfl : n = 8 := by omega
  go_enter Tryz.func149, Tryz.ntmps149
  go_wp2_with fail
  (try simp only [Exit.inBlock, Exit.then])
  refine bodyPost_ret ?_ rfl ⟨rfl, by go_grown⟩
  rw [results_cell1b rfl]
  go_simp
set_option maxHeartbeats 1000000 in
theorem cas_hit (c i o : Nat) (ws : List Int) (m old v : Int) (w : World) (ho : o ≤ 7) (h0 : 0 ≤ gB ws i) (h1 : gB ws i ≤ 18446744073709551615) (h : WB w c ws) (hi : i < ws.length) (he : gtV (gB ws i) m o = bits .and .u64 old m) :
  Calls Tryz.prog 153 #[.agg #[.pointer (some ⟨c, i, none⟩), .int .u64 (8 * (o : Int)), .int .u64 m], .int .u64 old, .int .u64 v] w fun e w' => e = .returned (.tuple #[.int .u64 (gtV (gB ws i) m o), .bool true]) ∧ WB w' c (ws.set i (swV (gB ws i) m v o)) ∧ Keep (· = c) w w' := by
 have hlt := h.lt
 have H := Lib.hid h
 have HI := Lib.hid hi
 have hcell := h.cell i hi
 have he' := Lib.hid he
 have hne : (bits .and .u64 (gB ws i / 2 ^ (8 * o)) m != bits .and .u64 old m) = false := by
  unfold gtV at he
  simp [he]
 clear he hi
 go_enter Tryz.func153, Tryz.ntmps153
 go_wp2_with fail
 refine wp_loop_rounds 1 ?_
 rw [rounds_succ]
 go_wp2_with fail
 refine (load64_any c i (gB ws i) _ (by go_simp)).mono ?_
 rintro e w' ⟨rfl, rfl⟩
 go_wp2_with fail
 refine (swap_any c i o ws m v _ ho h0 h1 (Blk.alloc H.out _) HI.out).mono ?_
 rintro e w1 ⟨rfl, hw1, hk1⟩
 go_wp2
 go_ret2
 exact ⟨rfl, hw1, ((Keep.refl _ w).alloc _).trans hk1⟩
set_option maxHeartbeats 1000000 in
theorem cas_miss (c i o : Nat) (x m old v : Int) (w : World) (ho : o ≤ 7) (h0 : 0 ≤ x) (h1 : x ≤ 18446744073709551615) (h : w.cell? ⟨c, i, none⟩ = some (.int .u64 x)) (he : ¬ gtV x m o = bits .and .u64 old m) :
  Calls Tryz.prog 153 #[.agg #[.pointer (some ⟨c, i, none⟩), .int .u64 (8 * (o : Int)), .int .u64 m], .int .u64 old, .int .u64 v] w fun e w' => e = .returned (.tuple #[.int .u64 (gtV x m o), .bool false]) ∧ Below w.heap.size w w' := by
 have hlt := World.block_lt_of_cell? w _ h
 have hne : (bits .and .u64 (x / 2 ^ (8 * o)) m != bits .and .u64 old m) = true := by
  unfold gtV at he
  simpa using he
 clear he
 go_enter Tryz.func153, Tryz.ntmps153
 go_wp2_with fail
 refine wp_loop_rounds 1 ?_
 rw [rounds_succ]
 go_wp2_with fail
 refine (load64_any c i x _ (by go_simp)).mono ?_
 rintro e w' ⟨rfl, rfl⟩
 go_wp2
 go_ret2
 exact ⟨rfl, by go_grown⟩
end Go.Proofs.YtggjhleomocojaaGreat
end
end
