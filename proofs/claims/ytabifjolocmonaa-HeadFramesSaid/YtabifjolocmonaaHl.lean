/- The laws HeadRecords and HeadSizes walked: true, and nothing that was there has turned. Conditions: the arguments are in their kinds' ranges. -/
import Derived.Test.YtabifjolocmonaaHd
namespace Go.Proofs.Ytabifjolocmonaa
set_option maxRecDepth 100000
open Go.RowKit
set_option linter.unusedVariables false
theorem recS_bd (a b : Int) : 0 ≤ recS a b ∧ recS a b ≤ 18446744073709551615 := by unfold recS; omega
theorem loS_rec (a b : Int) (h0 : -2147483648 ≤ a) (h1 : a ≤ 2147483647) : loS (recS a b) = a := by unfold loS recS wrap32; omega
theorem hiS_rec (a b : Int) (h0 : -2147483648 ≤ b) (h1 : b ≤ 2147483647) : hiS (recS a b) = b := by unfold hiS recS wrap32; omega
theorem rec_lohi (v : Int) (h0 : 0 ≤ v) (h1 : v ≤ 18446744073709551615) : recS (loS v) (hiS v) = v := by unfold recS loS hiS wrap32; omega
theorem i32_bd {a : Int} (h : (Lit.int .i32 a).wf = true) : -2147483648 ≤ a ∧ a ≤ 2147483647 := by
  simpa [Lit.wf, IntKind.min, IntKind.max, IntKind.signed, IntKind.bits] using h
theorem i64_bd {a : Int} (h : (Lit.int .i64 a).wf = true) : -9223372036854775808 ≤ a ∧ a ≤ 9223372036854775807 := by
  simpa [Lit.wf, IntKind.min, IntKind.max, IntKind.signed, IntKind.bits] using h
theorem u64_bd {a : Int} (h : (Lit.int .u64 a).wf = true) : 0 ≤ a ∧ a ≤ 18446744073709551615 := by
  simpa [Lit.wf, IntKind.min, IntKind.max, IntKind.signed, IntKind.bits] using h
set_option maxHeartbeats 1000000 in
/-- law03.fixed -/
theorem fixed03_any (w : World) : Calls Try.prog 11 #[] w fun e w' => e = .returned (.bool true) ∧ w = w' := by
  have e1 : loS (recS (-8) (-1)) = -8 := by decide +kernel
  have e2 : hiS (recS (-8) (-1)) = -1 := by decide +kernel
  have e3 : szV 1 32 32 = 64 := by decide +kernel
  have e4 : szE 1 32 32 = 0 := by decide +kernel
  have e5 : szE (-1) 8 8 = 1 := by decide +kernel
  have e6 : recS 8 1 = 4294967304 := by decide +kernel
  have e7 : flS true true = 192 := by decide
  have b1 := recS_bd (-8) (-1)
  go_enter Try.func11, Try.ntmps11
  go_wp2_with (first
    | (go_at_call 12; refine (record_any _ _ _).mono ?_; rintro e w' ⟨rfl, rfl⟩)
    | (go_at_call 13; refine (split_any _ _ b1.1 b1.2).mono ?_; rintro e w' ⟨rfl, rfl⟩)
    | (go_at_call 18; refine (frameSize_any _ _).mono ?_; rintro e w' ⟨rfl, rfl⟩)
    | (go_at_call 16; refine (recordSize_any _ _).mono ?_; rintro e w' ⟨rfl, rfl⟩)
    | (go_at_call 20; refine (flags_any _ _ _).mono ?_; rintro e w' ⟨rfl, rfl⟩))
  go_ret
  exact ⟨rfl, rfl⟩
set_option maxHeartbeats 1000000 in
/-- law03.HeadRecords -/
theorem headRecords_walk (a0 a1 a2 : Int) (w0 : (Lit.int .i32 a0).wf = true) (w1 : (Lit.int .i32 a1).wf = true) (w2 : (Lit.int .u64 a2).wf = true) (w : World) :
    Calls Try.prog 3 #[.int .i32 a0, .int .i32 a1, .int .u64 a2] w fun e w' => e = .returned (.bool true) ∧ Below w.heap.size w w' := by
  obtain ⟨l0, u0⟩ := i32_bd w0
  obtain ⟨l1, u1⟩ := i32_bd w1
  obtain ⟨l2, u2⟩ := u64_bd w2
  obtain ⟨b1, b2⟩ := recS_bd a0 a1
  have e1 := loS_rec a0 a1 l0 u0
  have e2 := hiS_rec a0 a1 l1 u1
  have e3 := rec_lohi a2 l2 u2
  clear w0 w1 w2
  go_enter Try.func3, Try.ntmps3
  go_wp2_with (first
    | (go_at_call 11; refine (fixed03_any _).mono ?_; rintro e w' ⟨rfl, rfl⟩)
    | (go_at_call 12; refine (record_any _ _ _).mono ?_; rintro e w' ⟨rfl, rfl⟩)
    | (go_at_call 13; refine (split_any _ _ (by omega) (by omega)).mono ?_; rintro e w' ⟨rfl, rfl⟩)
    | (go_at_call 14; refine (refSplit_any _ _ l2 u2).mono ?_; rintro e w1 ⟨rfl, hb1⟩)
    | (go_at_call 15; refine (refRecord_any _ _ _ l0 u0 l1 u1).mono ?_; rintro e w2 ⟨rfl, hb2⟩))
  go_ret
  exact ⟨rfl, hb1.trans (hb2.mono hb1.size)⟩
set_option maxHeartbeats 1000000 in
/-- law03.HeadSizes -/
theorem headSizes_walk (n : Int) (b e : Bool) (w : World) :
    Calls Try.prog 4 #[.int .i64 n, .bool b, .bool e] w fun e w' => e = .returned (.bool true) ∧ w = w' := by
  cases b <;> cases e
  all_goals
    have e1 : flS true true = 192 := by decide
    have e2 : flS true false = 128 := by decide
    have e3 : flS false true = 64 := by decide
    have e4 : flS false false = 0 := by decide
    go_enter Try.func4, Try.ntmps4
    go_wp2_with (first
      | (go_at_call 11; refine (fixed03_any _).mono ?_; rintro e w' ⟨rfl, rfl⟩)
      | (go_at_call 16; refine (recordSize_any _ _).mono ?_; rintro e w' ⟨rfl, rfl⟩)
      | (go_at_call 17; refine (refRecordSize_any _ _).mono ?_; rintro e w' ⟨rfl, rfl⟩)
      | (go_at_call 18; refine (frameSize_any _ _).mono ?_; rintro e w' ⟨rfl, rfl⟩)
      | (go_at_call 19; refine (refFrameSize_any _ _).mono ?_; rintro e w' ⟨rfl, rfl⟩)
      | (go_at_call 20; refine (flags_any _ _ _).mono ?_; rintro e w' ⟨rfl, rfl⟩))
    go_ret
    exact ⟨rfl, rfl⟩
theorem headSizes_walk2 (n : Int) (_wn : (Lit.int .i64 n).wf = true) (b e : Bool) (w : World) :
    Calls Try.prog 4 #[.int .i64 n, .bool b, .bool e] w fun e w' => e = .returned (.bool true) ∧ Below w.heap.size w w' :=
  (headSizes_walk n b e w).mono fun _ _ ⟨h1, h2⟩ => ⟨h1, h2 ▸ Below.refl _ _⟩
end Go.Proofs.Ytabifjolocmonaa
