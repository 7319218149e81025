/- Contracts of ringput.Check, and of the reference's Right, Place, room. Conditions: the numbers are in their kinds' ranges. -/
import Derived.Test.YtggjhleomocojaaGreatKe
import Derived.Test.YtggjhleomocojaaGreatWb
namespace Go.Proofs.YtggjhleomocojaaGreat
set_option maxRecDepth 100000
open Go.RowKit
set_option linter.unusedVariables false
set_option linter.unusedSimpArgs false
def rgE (b s : Int) : Int := if rgOk b s = true then 0 else 1
theorem tmod8 {b : Int} (h : 0 ≤ b) : b.tmod 8 = b % 8 := Int.tmod_eq_emod_of_nonneg h
set_option maxHeartbeats 2000000 in
theorem rCheck_any (b s : Int) (w : World) (hb0 : -9223372036854775808 ≤ b) (hb1 : b ≤ 9223372036854775807) (hs0 : -9223372036854775808 ≤ s) (hs1 : s ≤ 9223372036854775807) :
  Calls Tryz.prog 35 #[.agg #[.int .i64 b, .int .i64 s]] w fun e w' => e = .returned (.int .i64 (rgE b s)) ∧ Below w.heap.size w w' := by
 by_cases c0 : 64 ≤ s
 rotate_left
 ·have HV' : rgOk b s = false := by unfold rgOk; simp; intros; first | contradiction | omega
  have HV := Lib.hid (show rgOk b s = false ∧ rgE b s = 1 from ⟨HV', by unfold rgE; rw [HV']; rfl⟩)
  clear HV'
  go_enter Tryz.func35, Tryz.ntmps35
  go_wp2_with fail
  go_ret
  exact ⟨by first | rw [HV.out.1]; rfl | rw [HV.out.2]; rfl | (rw [HV.out.1]; exact congrArg (fun x => Ending.returned (.bool x)) (decide_eq_false (by omega))) | (rw [HV.out.1]; exact congrArg (fun x => Ending.returned (.bool x)) (decide_eq_true (by omega))), by go_grown⟩
 by_cases c1 : s ≤ 8192
 rotate_left
 ·have HV' : rgOk b s = false := by unfold rgOk; simp; intros; first | contradiction | omega
  have HV := Lib.hid (show rgOk b s = false ∧ rgE b s = 1 from ⟨HV', by unfold rgE; rw [HV']; rfl⟩)
  clear HV'
  go_enter Tryz.func35, Tryz.ntmps35
  go_wp2_with fail
  go_ret
  exact ⟨by first | rw [HV.out.1]; rfl | rw [HV.out.2]; rfl | (rw [HV.out.1]; exact congrArg (fun x => Ending.returned (.bool x)) (decide_eq_false (by omega))) | (rw [HV.out.1]; exact congrArg (fun x => Ending.returned (.bool x)) (decide_eq_true (by omega))), by go_grown⟩
 by_cases c2 : isP s = true
 rotate_left
 ·have HV' : rgOk b s = false := by unfold rgOk; simp; intros; first | contradiction | omega
  have HV := Lib.hid (show rgOk b s = false ∧ rgE b s = 1 from ⟨HV', by unfold rgE; rw [HV']; rfl⟩)
  clear HV'
  have c2' : isP s = false := by simpa using c2
  clear c2
  go_enter Tryz.func35, Tryz.ntmps35
  go_wp2_with (go_at_call 71; refine (isPower_any _ _ (by omega)).mono ?_; rintro e w' ⟨rfl, rfl⟩)
  go_ret
  exact ⟨by first | rw [HV.out.1]; rfl | rw [HV.out.2]; rfl | (rw [HV.out.1]; exact congrArg (fun x => Ending.returned (.bool x)) (decide_eq_false (by omega))) | (rw [HV.out.1]; exact congrArg (fun x => Ending.returned (.bool x)) (decide_eq_true (by omega))), by go_grown⟩
 by_cases c3 : 0 ≤ b
 rotate_left
 ·have HV' : rgOk b s = false := by unfold rgOk; simp; intros; first | contradiction | omega
  have HV := Lib.hid (show rgOk b s = false ∧ rgE b s = 1 from ⟨HV', by unfold rgE; rw [HV']; rfl⟩)
  clear HV'
  have P := c2
  go_enter Tryz.func35, Tryz.ntmps35
  go_wp2_with (go_at_call 71; refine (isPower_any _ _ (by omega)).mono ?_; rintro e w' ⟨rfl, rfl⟩)
  go_ret
  exact ⟨by first | rw [HV.out.1]; rfl | rw [HV.out.2]; rfl | (rw [HV.out.1]; exact congrArg (fun x => Ending.returned (.bool x)) (decide_eq_false (by omega))) | (rw [HV.out.1]; exact congrArg (fun x => Ending.returned (.bool x)) (decide_eq_true (by omega))), by go_grown⟩
 by_cases c4 : b % 8 = 0
 rotate_left
 ·have HV' : rgOk b s = false := by unfold rgOk; simp; intros; first | contradiction | omega
  have HV := Lib.hid (show rgOk b s = false ∧ rgE b s = 1 from ⟨HV', by unfold rgE; rw [HV']; rfl⟩)
  clear HV'
  have P := c2
  have q8 := tmod8 c3
  have c4' : ¬ b.tmod 8 = 0 := by rw [q8]; exact c4
  go_enter Tryz.func35, Tryz.ntmps35
  go_wp2_with (go_at_call 71; refine (isPower_any _ _ (by omega)).mono ?_; rintro e w' ⟨rfl, rfl⟩)
  go_ret
  exact ⟨by first | rw [HV.out.1]; rfl | rw [HV.out.2]; rfl | (rw [HV.out.1]; exact congrArg (fun x => Ending.returned (.bool x)) (decide_eq_false (by omega))) | (rw [HV.out.1]; exact congrArg (fun x => Ending.returned (.bool x)) (decide_eq_true (by omega))), by go_grown⟩
 by_cases c5 : b ≤ 131040 - s
 rotate_left
 ·have HV' : rgOk b s = false := by unfold rgOk; simp; intros; first | contradiction | omega
  have HV := Lib.hid (show rgOk b s = false ∧ rgE b s = 1 from ⟨HV', by unfold rgE; rw [HV']; rfl⟩)
  clear HV'
  have P := c2
  have q8 := tmod8 c3
  rw [← q8] at c4
  have W1 : IntKind.i64.wrap (131072 - s) = 131072 - s := IntWalk.i64_in _ ⟨by omega, by omega⟩
  have W2 : IntKind.i64.wrap (131072 - s - 32) = 131072 - s - 32 := IntWalk.i64_in _ ⟨by omega, by omega⟩
  have c5' : 131072 - s - 32 < b := by omega
  go_enter Tryz.func35, Tryz.ntmps35
  go_wp2_with (go_at_call 71; refine (isPower_any _ _ (by omega)).mono ?_; rintro e w' ⟨rfl, rfl⟩)
  go_ret
  exact ⟨by first | rw [HV.out.1]; rfl | rw [HV.out.2]; rfl | (rw [HV.out.1]; exact congrArg (fun x => Ending.returned (.bool x)) (decide_eq_false (by omega))) | (rw [HV.out.1]; exact congrArg (fun x => Ending.returned (.bool x)) (decide_eq_true (by omega))), by go_grown⟩
 have HV' : rgOk b s = true := by unfold rgOk; simp; refine ⟨⟨⟨⟨⟨?_, ?_⟩, ?_⟩, ?_⟩, ?_⟩, ?_⟩ <;> first | assumption | omega
 have HV := Lib.hid (show rgOk b s = true ∧ rgE b s = 0 from ⟨HV', by unfold rgE; rw [HV']; rfl⟩)
 clear HV'
 have q8 := tmod8 c3
 rw [← q8] at c4
 have W1 : IntKind.i64.wrap (131072 - s) = 131072 - s := IntWalk.i64_in _ ⟨by omega, by omega⟩
 have W2 : IntKind.i64.wrap (131072 - s - 32) = 131072 - s - 32 := IntWalk.i64_in _ ⟨by omega, by omega⟩
 have c5' : b ≤ 131072 - s - 32 := by omega
 go_enter Tryz.func35, Tryz.ntmps35
 go_wp2_with (go_at_call 71; refine (isPower_any _ _ (by omega)).mono ?_; rintro e w' ⟨rfl, rfl⟩)
 go_ret
 exact ⟨by first | rw [HV.out.1]; rfl | rw [HV.out.2]; rfl | (rw [HV.out.1]; exact congrArg (fun x => Ending.returned (.bool x)) (decide_eq_false (by omega))) | (rw [HV.out.1]; exact congrArg (fun x => Ending.returned (.bool x)) (decide_eq_true (by omega))), by go_grown⟩
end Go.Proofs.YtggjhleomocojaaGreat
