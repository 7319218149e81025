/- The laws of the package word walked: true, and nothing that was there has turned. Conditions: the arguments are in their kinds' ranges; the table of math/bits holds what the text of the library lays. -/
import Derived.Test.YtmlmchgigepleaaDoorWl
import Derived.Test.YtmlmchgigepleaaDoorCh
namespace Go.Proofs.YtmlmchgigepleaaDoor
open Go.RowKit
set_option linter.unusedVariables false
theorem i64_bd {a : Int} (h : (Lit.int .i64 a).wf = true) : -9223372036854775808 ≤ a ∧ a ≤ 9223372036854775807 := by
  simpa [Lit.wf, IntKind.min, IntKind.max, IntKind.signed, IntKind.bits] using h
theorem u64_bd {a : Int} (h : (Lit.int .u64 a).wf = true) : 0 ≤ a ∧ a ≤ 18446744073709551615 := by
  simpa [Lit.wf, IntKind.min, IntKind.max, IntKind.signed, IntKind.bits] using h
theorem TabOk.below {w w' : World} (h : TabOk w) (hb : Below w.heap.size w w') : TabOk w' := fun i hi => by
  have := h i hi
  rw [hb.cell (p := ⟨0, i, none⟩) (World.block_lt_of_cell? w _ this)]
  exact this
set_option maxHeartbeats 2000000 in
/-- law01.fixed -/
theorem fixed01_any (w : World) (hT : TabOk w) : Calls Tryd.prog 10 #[] w fun e w' => e = .returned (.bool true) ∧ Below w.heap.size w w' := by
  have e1 : alV 33 32 = 64 := by decide +kernel
  have e2 : alE 33 32 = 0 := by decide +kernel
  have e3 : alE 1 3 = 1 := by decide +kernel
  have e4 : lgS 8 = 3 := by decide +kernel
  have e5 : isP 8 = true := by decide +kernel
  have e6 : mkS (-1) 8 = 7 := by decide +kernel
  have e7 : strOfNums (byS 258 2) = ⟨#[2, 1]⟩ := by decide +kernel
  have HT := Lib.hid hT
  clear hT
  go_enter Tryd.func10, Tryd.ntmps10
  go_wp2_with (first
    | (go_at_call 17; refine (align_any _ _ _ (by omega)).mono ?_; rintro e w' ⟨rfl, rfl⟩)
    | (go_at_call 11; refine (log2_any _ _ (by omega) HT.out).mono ?_; rintro e w' ⟨rfl, rfl⟩)
    | (go_at_call 19; refine (wBytes_all _ _ _ (by omega) (by omega)).mono ?_; rintro e w1 ⟨v, rfl, own, hb⟩; have hcv := conv_rd 32 9 Tryd.underlying32 Tryd.underlying9 own.rd)
    | (go_at_call 15; refine (mask_any _ _ _ (by omega)).mono ?_; rintro e w' ⟨rfl, rfl⟩))
  go_ret
  exact ⟨rfl, hb⟩
set_option maxHeartbeats 2000000 in
/-- law01.WordPowers -/
theorem wordPowers_walk (n : Int) (wn : (Lit.int .i64 n).wf = true) (to : Int) (wt : (Lit.int .i64 to).wf = true) (w : World) (hT : TabOk w) :
    Calls Tryd.prog 3 #[.int .i64 n, .int .i64 to] w fun e w' => e = .returned (.bool true) ∧ Below w.heap.size w w' := by
  obtain ⟨n0, n1⟩ := i64_bd wn
  obtain ⟨t0, t1⟩ := i64_bd wt
  have HT := Lib.hid hT
  clear wn wt hT
  go_enter Tryd.func3, Tryd.ntmps3
  go_wp2_with (first
    | (go_at_call 10; refine (fixed01_any _ HT.out).mono ?_; rintro e w1 ⟨rfl, hb⟩; have HT1 := Lib.hid (HT.out.below hb))
    | (go_at_call 11; refine (log2_any _ _ (by omega) HT1.out).mono ?_; rintro e w' ⟨rfl, rfl⟩)
    | (go_at_call 12; refine (refLog2_any _ _).mono ?_; rintro e w' ⟨rfl, rfl⟩)
    | (go_at_call 13; refine (isPower_any _ _ (by omega)).mono ?_; rintro e w' ⟨rfl, rfl⟩)
    | (go_at_call 14; refine (refIsPower_any _ _).mono ?_; rintro e w' ⟨rfl, rfl⟩)
    | (go_at_call 15; refine (mask_any _ _ _ (by omega)).mono ?_; rintro e w' ⟨rfl, rfl⟩)
    | (go_at_call 16; refine (refMask_any _ _ _ (by omega) (by omega) (by omega)).mono ?_; rintro e w' ⟨rfl, rfl⟩))
  go_ret
  exact ⟨rfl, hb⟩
set_option maxHeartbeats 2000000 in
/-- law01.WordAligns -/
theorem wordAligns_walk (n : Int) (wn : (Lit.int .i64 n).wf = true) (to : Int) (wt : (Lit.int .i64 to).wf = true) (w : World) (hT : TabOk w) :
    Calls Tryd.prog 4 #[.int .i64 n, .int .i64 to] w fun e w' => e = .returned (.bool true) ∧ Below w.heap.size w w' := by
  obtain ⟨n0, n1⟩ := i64_bd wn
  obtain ⟨t0, t1⟩ := i64_bd wt
  have HT := Lib.hid hT
  clear wn wt hT
  go_enter Tryd.func4, Tryd.ntmps4
  go_wp2_with (first
    | (go_at_call 10; refine (fixed01_any _ HT.out).mono ?_; rintro e w1 ⟨rfl, hb⟩)
    | (go_at_call 17; refine (align_any _ _ _ (by omega)).mono ?_; rintro e w' ⟨rfl, rfl⟩)
    | (go_at_call 18; refine (refAlign_any _ _ _ (by omega)).mono ?_; rintro e w' ⟨rfl, rfl⟩))
  go_ret
  exact ⟨rfl, hb⟩
end Go.Proofs.YtmlmchgigepleaaDoor
