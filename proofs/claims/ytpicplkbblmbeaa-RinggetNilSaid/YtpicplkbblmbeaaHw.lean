/- Contracts of the reference's headers: bytes, signed, Split, Record. Conditions: the arguments are in their kinds' ranges. -/
import Derived.Test.YtpicplkbblmbeaaRw
namespace Go.Proofs.Ytpicplkbblmbeaa
set_option maxRecDepth 100000
open Go.RowKit
set_option linter.unusedVariables false

set_option maxHeartbeats 1000000 in
/-- ref03.bytes -/
theorem refbytes_any (x : Int) (n : Nat) (w : World) (h0 : -9223372036854775808 ≤ x) (h1 : x ≤ 9223372036854775807) (hn : n ≤ 8) :
    Calls Try.prog 79 #[.int .i64 x, .int .i64 n] w fun e w' => ∃ v, e = .returned v ∧ OwB 5 w.heap.size w' v (leB (IntKind.u64.wrap x) n) ∧ Below w.heap.size w w' := by
  go_enter Try.func79, Try.ntmps79
  go_wp2_with fail
  refine (refBytes_any _ n _ (by rw [IntKind.wrap_u64]; omega) (by rw [IntKind.wrap_u64]; omega) hn).mono ?_
  rintro e w' ⟨v, rfl, hown, hb⟩
  go_wp2_with fail
  go_ret
  exact ⟨_, rfl, hown, hb⟩
set_option maxHeartbeats 1000000 in
/-- ref03.Record -/
theorem refRecord_any (x y : Int) (w : World) (h0 : -2147483648 ≤ x) (h1 : x ≤ 2147483647) (h2 : -2147483648 ≤ y) (h3 : y ≤ 2147483647) :
    Calls Try.prog 35 #[.int .i32 x, .int .i32 y] w fun e w' => e = .returned (.int .u64 (recS x y)) ∧ Below w.heap.size w w' := by
  obtain ⟨i0, hi, hz0, hz1, hz2⟩ := info_parts u8info
  have HE : Hid (leN ((leB (IntKind.u64.wrap x) 4 ++ leB (IntKind.u64.wrap y) 4).take 8) = recS x y) := by
    show leN _ = _
    rw [List.take_of_length_le (by simp [leB_length]), leN_append, leN_leB, leN_leB, leB_length, IntKind.wrap_u64, IntKind.wrap_u64]
    unfold recS
    omega
  go_enter Try.func35, Try.ntmps35
  go_wp2_with fail
  refine (refbytes_any x 4 _ (by omega) (by omega) (by omega)).mono ?_
  rintro e w1 ⟨v1, rfl, own1, b1⟩
  go_wp2_with fail
  refine (refbytes_any y 4 _ (by omega) (by omega) (by omega)).mono ?_
  rintro e w2 ⟨v2, rfl, own2, b2⟩
  replace own1 := own1.below b2
  replace b2 := b1.trans (b2.mono b1.size)
  have own2' := own2.mono b1.size
  obtain ⟨g, cap, rfl, hg, hg', hc, hm, hcell⟩ := own2.slice (by rw [leB_length]; omega)
  have hnews := own2'.news
  clear hcell
  have hs := b2.size
  unfold OwB at own1
  rw [leB_length] at *
  go_wp2_with (at_builtin; refine wpList_append_own _ rfl _ _ 26 rfl w.heap.size 5 i0 (.int .u8 0) 1 1 Try.underlying26 hi hz0 hz1 hz2 rfl (by decide) _ _ _ rfl own1 ⟨g, 0, none⟩ 4 cap _ rfl ?c0 hnews (ones_u8 _) ?c3 ?c4 ?c5 ?_)
  case c0 => simp [leB_length]
  case c3 => unfold maxLen; omega
  case c4 => omega
  case c5 => exact hs
  intro v' w3 own3 hgrow _
  have b3 := b2.grown hgrow hs fun i hi => (own1.lt i hi).1
  rw [← List.map_append] at own3
  have own : OwB 5 w.heap.size w3 v' (leB (IntKind.u64.wrap x) 4 ++ leB (IntKind.u64.wrap y) 4) := by
    unfold OwB
    simpa [leB_length] using own3
  clear own1 own2 own2' hnews hgrow own3
  go_wp2_with fail
  refine (refNumber_any _ _ _ own.rd ((leB_is _ _).append (leB_is _ _))).mono ?_
  rintro e w' ⟨rfl, rfl⟩
  rw [HE.out]
  go_wp2_with fail
  go_ret
  exact ⟨rfl, b3⟩
end Go.Proofs.Ytpicplkbblmbeaa
