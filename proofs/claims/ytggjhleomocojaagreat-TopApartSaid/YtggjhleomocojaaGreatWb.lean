/- Contracts of word.IsPower, word.Align, and of the reference's Log2, IsPower, Align. Conditions: the arguments are in their kinds' ranges. -/
import Derived.Test.YtggjhleomocojaaGreatRw
import Derived.Test.YtggjhleomocojaaGreatBb
section
namespace Go.Proofs.YtggjhleomocojaaGreat
set_option maxRecDepth 100000
open Go.RowKit
set_option linter.unusedVariables false
theorem isPower_any (n : Int) (w : World) (h1 : n ≤ 9223372036854775807) :
  Calls Tryz.prog 71 #[.int .i64 n] w fun e w' => e = .returned (.bool (isP n)) ∧ w = w' := by
 by_cases h : 0 < n
 ·have H := Lib.hid (bits_pow n h h1)
  go_enter Tryz.func71, Tryz.ntmps71
  go_wp2
  go_ret
  exact ⟨by rw [← H.out]; rfl, rfl⟩
 ·have H := Lib.hid (isP_neg n (by omega))
  go_enter Tryz.func71, Tryz.ntmps71
  go_wp2
  go_ret
  exact ⟨by rw [H.out]; rfl, rfl⟩
set_option maxHeartbeats 1000000 in
theorem align_any (n to : Int) (w : World) (ht : to ≤ 9223372036854775807) :
  Calls Tryz.prog 58 #[.int .i64 n, .int .i64 to] w fun e w' => e = .returned (.tuple #[.int .i64 (alV n to), .int .i64 (alE n to)]) ∧ w = w' := by
 by_cases hp : isP to = true
 ·obtain ⟨k, hk, hto⟩ := (isP_iff to).1 hp
  have hpw := pow62 k hk
  rw [← hto] at hpw
  have HTO := Lib.hid hto
  clear hto
  by_cases h0 : n < 0
  ·have HV := Lib.hid (show alV n to = 0 ∧ alE n to = 1 by unfold alV alE alBad; simp [h0])
   go_enter Tryz.func58, Tryz.ntmps58
   go_wp2_with (go_at_call 71; refine (isPower_any _ _ ht).mono ?_; rintro e w' ⟨rfl, rfl⟩)
   go_ret2
   exact ⟨by rw [HV.out.1, HV.out.2]; rfl, rfl⟩
  by_cases h1 : 4611686018427387904 < n
  ·have HV := Lib.hid (show alV n to = 0 ∧ alE n to = 1 by unfold alV alE alBad; simp [h1])
   go_enter Tryz.func58, Tryz.ntmps58
   go_wp2_with (go_at_call 71; refine (isPower_any _ _ ht).mono ?_; rintro e w' ⟨rfl, rfl⟩)
   go_ret2
   exact ⟨by rw [HV.out.1, HV.out.2]; rfl, rfl⟩
  have hbad : alBad n to = false := by unfold alBad; simp [hp, h0, h1]
  have HB := bits_clear n k hk (by omega) (by omega)
  rw [← HTO.out] at HB
  by_cases hm : n % to = 0
  ·have HV := Lib.hid (show alV n to = n ∧ alE n to = 0 by unfold alV alE; simp [hbad, hm])
   have hb2 : n / to * to = n := by rw [HTO.out] at hm ⊢; exact even_back n k hm
   rw [hb2] at HB
   clear hb2 hm hbad
   go_enter Tryz.func58, Tryz.ntmps58
   go_wp2_with (go_at_call 71; refine (isPower_any _ _ ht).mono ?_; rintro e w' ⟨rfl, rfl⟩)
   go_ret2
   exact ⟨by rw [HV.out.1, HV.out.2]; rfl, rfl⟩
  ·have HV := Lib.hid (show alV n to = (n / to + 1) * to ∧ alE n to = 0 by unfold alV alE; simp [hbad, hm])
   have hup := up_le n k hk (by omega) (by omega) (by rw [← HTO.out]; exact hm)
   rw [← HTO.out] at hup
   obtain ⟨u1, u2, u3, u4, u5, u6, u7, u8⟩ := hup
   have hne : (n / to * to == n) = false := by simpa using u7
   have HU := Lib.hid u6
   have v1 : n / to * to + to ≤ 4611686018427387904 := by omega
   clear u6 u7 hm hbad
   go_enter Tryz.func58, Tryz.ntmps58
   go_wp2_with (go_at_call 71; refine (isPower_any _ _ ht).mono ?_; rintro e w' ⟨rfl, rfl⟩)
   go_ret2
   exact ⟨by rw [HV.out.1, HV.out.2, ← HU.out]; rfl, rfl⟩
 ·have hp' : isP to = false := by simpa using hp
  have HV := Lib.hid (show alV n to = 0 ∧ alE n to = 1 by unfold alV alE alBad; simp [hp'])
  clear hp
  go_enter Tryz.func58, Tryz.ntmps58
  go_wp2_with (go_at_call 71; refine (isPower_any _ _ ht).mono ?_; rintro e w' ⟨rfl, rfl⟩)
  go_ret2
  exact ⟨by rw [HV.out.1, HV.out.2]; rfl, rfl⟩
set_option linter.unusedVariables false
def mkB (x : Int) (n k : Nat) : List Int := leB x k ++ List.replicate (n - k) 0
theorem mkB_start (x : Int) (n : Nat) : (mkB x n 0).map (Value.int .u8) = (madeCells #[Value.int .u8 0] n).toList := by
 simp only [mkB, leB, madeCells, Nat.sub_zero, List.nil_append, List.map_replicate]
 apply List.ext_getElem
 ·simp
 ·intro i h1 h2
  simp [Nat.mod_one]
theorem mkB_end (x : Int) (n : Nat) : mkB x n n = leB x n := by simp [mkB]
theorem mkB_cell (x : Int) (n k : Nat) (h : k < n) : ((mkB x n k).map (Value.int .u8))[k]? = some (.int .u8 0) := by
 simp [mkB, leB_length, Nat.sub_pos_of_lt h]
theorem mkB_set (x : Int) (n k : Nat) (h : k < n) : ((mkB x n k).map (Value.int .u8)).set k (.int .u8 (x / 256 ^ k % 256)) = (mkB x n (k + 1)).map (Value.int .u8) := by
 obtain ⟨m, hm⟩ : ∃ m, n - k = m + 1 := ⟨n - k - 1, by omega⟩
 unfold mkB
 rw [leB_snoc, hm, show n - (k + 1) = m from by omega]
 simp [leB_length, List.replicate_succ]
theorem pow_8 (k : Nat) : (2 : Int) ^ (8 * k) = 256 ^ k := by rw [Int.pow_mul]; rfl
set_option maxHeartbeats 1000000 in
theorem wBytes_any (x : Int) (n : Nat) (w : World) (h0 : 0 ≤ x) (h1 : x ≤ 18446744073709551615) (hn : n ≤ 8) :
  Calls Tryz.prog 42 #[.int .u64 x, .int .i64 n] w fun e w' => ∃ v, e = .returned v ∧ OwB 5 w.heap.size w' v (leB x n) ∧ Below w.heap.size w w' := by
 obtain ⟨i0, hi, hz0, hz1, hz2⟩ := info_parts u8info
 go_enter Tryz.func42, Tryz.ntmps42
 go_wp2_with (refine wpList_make_full _ rfl _ _ 32 rfl w.heap.size 5 i0 (.int .u8 0) 1 Tryz.underlying32 hi hz0 hz1 _ _ _ _ n rfl rfl rfl rfl ?c1 ?c2 ?c3 ?_)
 case c1 => rw [hz2]; omega
 case c2 => unfold maxLen; omega
 case c3 => exact Nat.le_refl _
 intro w1 own1 hg1
 have own0 : w1.ownsRow w.heap.size 5 1 (.slice (some ⟨w.heap.size, 0, none⟩) n n) n ((mkB x n 0).map (Value.int .u8)) := by
  rw [mkB_start]; exact own1
 have hb1 : Below w.heap.size w w1 := (Below.refl _ _).grown hg1 (Nat.le_refl _) (fun k hk => by cases hk)
 clear own1 hg1
 go_wp2_with fail
 go_loopw [6, 16] (fun j i wr => ∃ k : Nat, k ≤ n ∧ i = .int .i64 k ∧ wr.ownsRow w.heap.size 5 1 (.slice (some ⟨w.heap.size, 0, none⟩) n n) n ((mkB x n k).map (Value.int .u8)) ∧ Below w.heap.size w wr) (fun _ i _ => n - (intOf i).toNat)
 case atStart => exact ⟨0, by omega, rfl, own0, hb1⟩
 case round =>
  obtain ⟨k, hk, rfl, hown, hbel⟩ := hrel
  by_cases hlt : k < n
  ·have hc := hown.cellAt k (by omega)
   have hf := hown.frozenAt k
   rw [mkB_cell x n k hlt] at hc
   go_wp2
   have hst := hown.stored k (.int .u8 (x / 2 ^ (8 * k) % 256))
   refine ⟨⟨k + 1, by omega, by go_num, ?_, hbel.setCell (Nat.le_refl _) _⟩, by simp [intOf]; omega⟩
   have e := hst.1
   rw [pow_8 k, mkB_set x n k hlt] at e
   rw [pow_8 k]
   exact e
  ·go_wp2
   go_ret
   obtain rfl : k = n := by omega
   rw [mkB_end] at hown
   refine ⟨_, rfl, ?_, hbel⟩
   unfold OwB
   rw [leB_length]
   exact hown
end Go.Proofs.YtggjhleomocojaaGreat
end
