/- Contracts of word.Mask and of the reference's. Conditions: the arguments are in their kinds' ranges. -/
import Derived.Test.YtknahaaefmlcpaaGreatWb
namespace Go.Proofs.YtknahaaefmlcpaaGreat
set_option maxRecDepth 100000
open Go.RowKit
set_option linter.unusedVariables false
def mkS (n to : Int) : Int := if isP to = true then n % to else 0
theorem mask_any (n to : Int) (w : World) (ht : to ≤ 9223372036854775807) :
  Calls Tryz.prog 94 #[.int .i64 n, .int .i64 to] w fun e w' => e = .returned (.int .i64 (mkS n to)) ∧ w = w' := by
 by_cases hp : isP to = true
 ·obtain ⟨k, hk, hn⟩ := (isP_iff to).1 hp
  have hb := pow62 k hk
  have HB := Lib.hid (bits_mask n k hk)
  have HM := Lib.hid (show mkS n to = n % to by unfold mkS; rw [if_pos hp])
  rw [← hn] at hb HB
  clear hn
  go_enter Tryz.func94, Tryz.ntmps94
  go_wp2_with (go_at_call 110; refine (isPower_any _ _ ht).mono ?_; rintro e w' ⟨rfl, rfl⟩)
  go_ret
  exact ⟨ret_int (by rw [HM.out, ← HB.out]), rfl⟩
 ·have hp' : isP to = false := by simpa using hp
  have HM := Lib.hid (show mkS n to = 0 by unfold mkS; rw [if_neg hp])
  clear hp
  go_enter Tryz.func94, Tryz.ntmps94
  go_wp2_with (go_at_call 110; refine (isPower_any _ _ ht).mono ?_; rintro e w' ⟨rfl, rfl⟩)
  go_ret
  exact ⟨ret_int (by rw [HM.out]), rfl⟩
end Go.Proofs.YtknahaaefmlcpaaGreat
