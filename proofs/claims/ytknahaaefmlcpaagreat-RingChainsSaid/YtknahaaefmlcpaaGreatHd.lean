/- Contracts of the reference's headers: bytes, signed, Split, Record. Conditions: the arguments are in their kinds' ranges. -/
import Derived.Test.YtknahaaefmlcpaaGreatRw
import Derived.Test.YtknahaaefmlcpaaGreatWb
section
namespace Go.Proofs.YtknahaaefmlcpaaGreat
set_option maxRecDepth 100000
open Go.RowKit
set_option linter.unusedVariables false
set_option maxHeartbeats 1000000 in
theorem refbytes_any (x : Int) (n : Nat) (w : World) (h0 : -9223372036854775808 ≤ x) (h1 : x ≤ 9223372036854775807) (hn : n ≤ 8) :
  Calls Tryz.prog 164 #[.int .i64 x, .int .i64 n] w fun e w' => ∃ v, e = .returned v ∧ OwB 5 w.heap.size w' v (leB (IntKind.u64.wrap x) n) ∧ Below w.heap.size w w' := by
 go_enter Tryz.func164, Tryz.ntmps164
 go_wp2_with fail
 refine (refBytes_any _ n _ (by rw [IntKind.wrap_u64]; omega) (by rw [IntKind.wrap_u64]; omega) hn).mono ?_
 rintro e w' ⟨v, rfl, hown, hb⟩
 go_wp2_with fail
 go_ret
 exact ⟨_, rfl, hown, hb⟩
set_option maxHeartbeats 1000000 in
theorem refSigned_any (v : Value) (l : List Int) (w : World) (h : RdB w v l) (hb : IsB l) (hl : l.length ≤ 4) :
  Calls Tryz.prog 172 #[v] w fun e w' => e = .returned (.int .i32 (sg4 l)) ∧ w = w' := by
 have hlt := leN_lt 4 l hl hb
 have HT : Hid (l.take 8 = l) := List.take_of_length_le (by omega)
 have HS : Hid (sg4 l = wrap32 (leN l)) := rfl
 by_cases h2 : 2147483648 ≤ leN l
 all_goals
  go_enter Tryz.func172, Tryz.ntmps172
  go_wp2_with fail
  refine (refNumber_any v l _ h hb).mono ?_
  rintro e w' ⟨rfl, rfl⟩
  rw [HT.out]
  go_wp2_with fail
  go_ret
  refine ⟨ret_int ?_, rfl⟩
  unfold sg4 wrap32
  omega
set_option maxHeartbeats 1000000 in
theorem refSplit_any (x : Int) (w : World) (h0 : 0 ≤ x) (h1 : x ≤ 18446744073709551615) :
  Calls Tryz.prog 147 #[.int .u64 x] w fun e w' => e = .returned (.tuple #[.int .i32 (loS x), .int .i32 (hiS x)]) ∧ Below w.heap.size w w' := by
 have e1 : sg4 (leB x 4) = loS x := by unfold sg4 loS; rw [leN_leB]; rfl
 have e2 : sg4 (leB (x / 4294967296) 4) = hiS x := by unfold sg4 hiS; rw [leN_leB]; congr 1; omega
 have HE := Lib.hid (And.intro e1 e2)
 clear e1 e2
 go_enter Tryz.func147, Tryz.ntmps147
 go_wp2_with fail
 refine (refBytes_any x 8 _ h0 h1 (by omega)).mono ?_
 rintro e w' ⟨v, rfl, hown, hb⟩
 obtain ⟨g, cap, rfl, hg, hg', hc, hm, hcell⟩ := hown.slice (by rw [leB_length]; omega)
 rw [leB_length] at hc hcell
 have r1 : RdB w' (.slice (some ⟨g, 0, none⟩) 4 cap) (leB x 4) := RdB.cells (leB_length _ _) (by omega) hm fun i hi => by
  rw [Nat.zero_add, hcell i (by omega), ← leB_take x 8 4 (by omega), gB_take _ _ _ hi]
 have r2 : RdB w' (.slice (some ⟨g, 4, none⟩) 4 (cap - 4)) (leB (x / 4294967296) 4) := RdB.cells (leB_length _ _) (by omega) (by omega) fun i hi => by
  rw [hcell _ (by omega), show leB (x / 4294967296) 4 = (leB x 8).drop 4 from (leB_drop x 8 4).symm]; simp [gB]
 clear hcell hown
 rw [leB_length]
 have i4 : (4 : Int) ≤ (cap : Int) := by omega
 have i8 : (8 : Int) ≤ (cap : Int) := by omega
 go_wp2_with fail
 go_quiet ((first
  | (go_at_call_of 172 (Value.slice (some ⟨g, 0, none⟩) 4 cap); exact quietR (refSigned_any _ _ _ (r1.drewN _) (leB_is _ _) (by rw [leB_length]; omega)))
  | (go_at_call 172; exact quietR (refSigned_any _ _ _ (r2.drewN _) (leB_is _ _) (by rw [leB_length]; omega)))))
 go_wp2
 go_ret2
 exact ⟨by rw [← HE.out.1, ← HE.out.2]; rfl, bel_drewN _ hb⟩
set_option maxHeartbeats 1000000 in
theorem refRecord_any (x y : Int) (w : World) (h0 : -2147483648 ≤ x) (h1 : x ≤ 2147483647) (h2 : -2147483648 ≤ y) (h3 : y ≤ 2147483647) :
  Calls Tryz.prog 133 #[.int .i32 x, .int .i32 y] w fun e w' => e = .returned (.int .u64 (recS x y)) ∧ Below w.heap.size w w' := by
 obtain ⟨i0, hi, hz0, hz1, hz2⟩ := info_parts u8info
 have HE : Hid (leN ((leB (IntKind.u64.wrap x) 4 ++ leB (IntKind.u64.wrap y) 4).take 8) = recS x y) := by
  show leN _ = _
  rw [List.take_of_length_le (by simp [leB_length]), leN_append, leN_leB, leN_leB, leB_length, IntKind.wrap_u64, IntKind.wrap_u64]
  unfold recS
  omega
 go_enter Tryz.func133, Tryz.ntmps133
 go_wp2_with fail
 refine (refbytes_any x 4 _ (by omega) (by omega) (by omega)).mono ?_
 rintro e w1 ⟨v1, rfl, own1, b1⟩
 go_wp2_with fail
 refine (refbytes_any y 4 _ (by omega) (by omega) (by omega)).mono ?_
 rintro e w2 ⟨v2, rfl, own2, b2⟩
 replace own1 := own1.below b2
 replace b2 := b1.trans (b2.mono b1.size)
 have own2' := own2.mono b1.size
 obtain ⟨g, cap, rfl, hg, hg', hc, hm, hcell⟩ := own2.slice (by rw [leB_length]; omega)
 have hnews := own2'.news
 clear hcell
 have hs := b2.size
 unfold OwB at own1
 rw [leB_length] at *
 go_wp2_with (at_builtin; refine wpList_append_own _ rfl _ _ 22 rfl w.heap.size 5 i0 (.int .u8 0) 1 1 Tryz.underlying22 hi hz0 hz1 hz2 rfl (by decide) _ _ _ rfl own1 ⟨g, 0, none⟩ 4 cap _ rfl ?c0 hnews (ones_u8 _) ?c3 ?c4 ?c5 ?_)
 case c0 => simp [leB_length]
 case c3 => unfold maxLen; omega
 case c4 => omega
 case c5 => exact hs
 intro v' w3 own3 hgrow _
 have b3 := b2.grown hgrow hs fun i hi => (own1.lt i hi).1
 rw [← List.map_append] at own3
 have own : OwB 5 w.heap.size w3 v' (leB (IntKind.u64.wrap x) 4 ++ leB (IntKind.u64.wrap y) 4) := by
  unfold OwB
  simpa [leB_length] using own3
 clear own1 own2 own2' hnews hgrow own3
 go_wp2_with fail
 refine (refNumber_any _ _ _ own.rd ((leB_is _ _).append (leB_is _ _))).mono ?_
 rintro e w' ⟨rfl, rfl⟩
 rw [HE.out]
 go_wp2_with fail
 go_ret
 exact ⟨rfl, b3⟩
theorem or_join (x y : Int) (i : Nat) (hx : 0 ≤ x) (hx' : x < 18446744073709551616) (hy : 0 ≤ y) (hm : x % 2 ^ i = 0) (hy' : y < 2 ^ i) (hi : i ≤ 64) : bits .or .u64 x y = x + y := by
 have h64 : (2 : Int) ^ i ≤ 2 ^ 64 := by exact_mod_cast Nat.pow_le_pow_right (by decide) hi
 rw [u64_or x y hx hx' hy (by have : (2 : Int) ^ 64 = 18446744073709551616 := by decide
                              omega)]
 rw [nat_join i]
 ·omega
 ·have : ((x.toNat % 2 ^ i : Nat) : Int) = x % 2 ^ i := by simp [Int.toNat_of_nonneg hx]
  omega
 ·have : ((2 ^ i : Nat) : Int) = 2 ^ i := by simp
  omega
theorem record_or (a0 a1 : Int) : bits .or .u64 (a1 % 4294967296 * 4294967296) (a0 % 4294967296) = recS a0 a1 := by
 rw [or_join _ _ 32 (by omega) (by omega) (by omega) (by omega) (by omega) (by omega)]
 rfl
theorem record_any (a0 a1 : Int) (w : World) :
  Calls Tryz.prog 159 #[.int .i32 a0, .int .i32 a1] w fun e w' => e = .returned (.int .u64 (recS a0 a1)) ∧ w = w' := by
 go_enter Tryz.func159, Tryz.ntmps159
 go_wp2
 go_ret
 exact ⟨ret_int (record_or _ _), rfl⟩
theorem split_any (a0 : Int) (w : World) (h0 : 0 ≤ a0) (h1 : a0 ≤ 18446744073709551615) :
  Calls Tryz.prog 95 #[.int .u64 a0] w fun e w' => e = .returned (.tuple #[.int .i32 (loS a0), .int .i32 (hiS a0)]) ∧ w = w' := by
 go_enter Tryz.func95, Tryz.ntmps95
 go_wp2
 go_ret2
 exact ⟨by simp [loS, hiS], rfl⟩
set_option maxHeartbeats 1000000 in
theorem size_any (n h to : Int) (w : World) (h0 : 0 ≤ h) (h1 : h ≤ 1000) (ht0 : 0 ≤ to) (ht : to ≤ 1000) :
  Calls Tryz.prog 115 #[.int .i64 n, .int .i64 h, .int .i64 to] w fun e w' => e = .returned (.tuple #[.int .i64 (szV n h to), .int .i64 (szE n h to)]) ∧ w = w' := by
 by_cases c1 : n < 0
 ·have HV := Lib.hid (show szV n h to = 0 ∧ szE n h to = 1 by unfold szV szE szBad; simp [c1])
  go_enter Tryz.func115, Tryz.ntmps115
  go_wp2_with fail
  go_ret2
  exact ⟨by rw [HV.out.1, HV.out.2]; rfl, rfl⟩
 by_cases c2 : 131072 < n
 ·have HV := Lib.hid (show szV n h to = 0 ∧ szE n h to = 1 by unfold szV szE szBad; simp [c2])
  go_enter Tryz.func115, Tryz.ntmps115
  go_wp2_with fail
  go_ret2
  exact ⟨by rw [HV.out.1, HV.out.2]; rfl, rfl⟩
 have HV := Lib.hid (show szV n h to = alV (n + h) to ∧ szE n h to = alE (n + h) to by unfold szV szE szBad; simp [c1, c2])
 go_enter Tryz.func115, Tryz.ntmps115
 go_wp2_with fail
 refine (align_any _ _ _ (by omega)).mono ?_
 rintro e w' ⟨rfl, rfl⟩
 go_wp2_with fail
 go_ret2
 exact ⟨by rw [HV.out.1, HV.out.2]; rfl, rfl⟩
set_option maxHeartbeats 1000000 in
theorem refsize_any (n h to : Int) (w : World) (h0 : 0 ≤ h) (h1 : h ≤ 1000) (ht0 : 0 ≤ to) (ht : to ≤ 1000) :
  Calls Tryz.prog 162 #[.int .i64 n, .int .i64 h, .int .i64 to] w fun e w' => e = .returned (.tuple #[.int .i64 (szV n h to), .int .i64 (szE n h to)]) ∧ w = w' := by
 by_cases c1 : n < 0
 ·have HV := Lib.hid (show szV n h to = 0 ∧ szE n h to = 1 by unfold szV szE szBad; simp [c1])
  go_enter Tryz.func162, Tryz.ntmps162
  go_wp2_with fail
  go_ret2
  exact ⟨by rw [HV.out.1, HV.out.2]; rfl, rfl⟩
 by_cases c2 : 131072 < n
 ·have HV := Lib.hid (show szV n h to = 0 ∧ szE n h to = 1 by unfold szV szE szBad; simp [c2])
  go_enter Tryz.func162, Tryz.ntmps162
  go_wp2_with fail
  go_ret2
  exact ⟨by rw [HV.out.1, HV.out.2]; rfl, rfl⟩
 have HV := Lib.hid (show szV n h to = alV (n + h) to ∧ szE n h to = alE (n + h) to by unfold szV szE szBad; simp [c1, c2])
 go_enter Tryz.func162, Tryz.ntmps162
 go_wp2_with fail
 refine (refAlign_any _ _ _ (by omega)).mono ?_
 rintro e w' ⟨rfl, rfl⟩
 go_wp2_with fail
 go_ret2
 exact ⟨by rw [HV.out.1, HV.out.2]; rfl, rfl⟩
theorem recordSize_any (n : Int) (w : World) :
  Calls Tryz.prog 61 #[.int .i64 n] w fun e w' => e = .returned (.tuple #[.int .i64 (szV n 8 8), .int .i64 (szE n 8 8)]) ∧ w = w' := by
 go_enter Tryz.func61, Tryz.ntmps61
 go_wp2_with fail
 refine (size_any n 8 8 _ (by omega) (by omega) (by omega) (by omega)).mono ?_
 rintro e w' ⟨rfl, rfl⟩
 go_wp2_with fail
 go_ret2
 exact ⟨rfl, rfl⟩
theorem refRecordSize_any (n : Int) (w : World) :
  Calls Tryz.prog 127 #[.int .i64 n] w fun e w' => e = .returned (.tuple #[.int .i64 (szV n 8 8), .int .i64 (szE n 8 8)]) ∧ w = w' := by
 go_enter Tryz.func127, Tryz.ntmps127
 go_wp2_with fail
 refine (refsize_any n 8 8 _ (by omega) (by omega) (by omega) (by omega)).mono ?_
 rintro e w' ⟨rfl, rfl⟩
 go_wp2_with fail
 go_ret2
 exact ⟨rfl, rfl⟩
end Go.Proofs.YtknahaaefmlcpaaGreat
end
