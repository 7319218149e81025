/- The walk of MembufOwn, as the frame takes it. -/
import Derived.Test.YtkbjbpaeoopkfaaBn
namespace Go.Proofs.Ytkbjbpaeoopkfaa
set_option maxRecDepth 100000
open Go.RowKit
set_option linter.unusedVariables false
theorem u64_bdo {a : Int} (h : (Lit.int .u64 a).wf = true) : 0 ≤ a ∧ a ≤ 18446744073709551615 := by
  simpa [Lit.wf, IntKind.min, IntKind.max, IntKind.signed, IntKind.bits] using h
theorem rd_slice {w : World} {v : Value} {l : List Int} (h : RdB w v l) : ∃ a n c, v = .slice a n c := by
  rcases h with ⟨rfl, rfl⟩ | ⟨a, cap, rfl, rfl, hm⟩ | ⟨b, off, cap, rfl, hc, hm, hcell⟩
  · exact ⟨_, _, _, rfl⟩
  · exact ⟨_, _, _, rfl⟩
  · exact ⟨_, _, _, rfl⟩
set_option maxHeartbeats 1000000 in
theorem own_early (f0' : Option Addr) (fl fc : Nat) (k a n x y : Int) (s0 : Option Addr) (sl sc : Nat) (w : World) (h : 64 < fl ∨ 100 < sl) :
    Calls Try.prog 10 #[.slice f0' fl fc, .agg #[.int .i64 k, .int .i64 a, .int .i64 n, .int .u64 x, .int .u64 y, .slice s0 sl sc]] w fun e w' => e = .returned (.bool true) ∧ Below w.heap.size w w' := by
  by_cases h1 : (64 : Int) < (fl : Int)
  · clear h
    go_enter Try.func10, Try.ntmps10
    go_wp2_with fail
    refine (mFixed _).mono ?_
    rintro r w1 ⟨rfl, b1⟩
    have B1 : Below w.heap.size w w1 := ((Below.refl w.heap.size w).alloc (Nat.le_refl _) _).trans (b1.mono (by simp))
    go_wp2
    go_ret
    exact ⟨rfl, B1⟩
  · have h2 : (100 : Int) < (sl : Int) := by omega
    clear h
    go_enter Try.func10, Try.ntmps10
    go_wp2_with fail
    refine (mFixed _).mono ?_
    rintro r w1 ⟨rfl, b1⟩
    obtain ⟨f0, f1, f2, f3, f4, f5⟩ := cells6b b1
    have B1 : Below w.heap.size w w1 := ((Below.refl w.heap.size w).alloc (Nat.le_refl _) _).trans (b1.mono (by simp))
    go_wp2
    go_ret
    exact ⟨rfl, B1⟩
theorem own_said (v : Value) (lf : List Int) (k a n x y : Int) (s0 : Option Addr) (sl sc : Nat) (l : List Int) (_ : (Lit.int .i64 k).wf = true) (_ : (Lit.int .i64 a).wf = true) (_ : (Lit.int .i64 n).wf = true) (wx : (Lit.int .u64 x).wf = true) (wy : (Lit.int .u64 y).wf = true) (w : World) (h : RdB w v lf) (hb : IsB lf) (hr : RdB w (.slice s0 sl sc) l) (hl : IsB l) :
    Calls Try.prog 10 #[v, .agg #[.int .i64 k, .int .i64 a, .int .i64 n, .int .u64 x, .int .u64 y, .slice s0 sl sc]] w fun e w' => e = .returned (.bool true) ∧ Below w.heap.size w w' := by
  obtain ⟨f0', fl, fc, rfl⟩ := rd_slice h
  have bx := u64_bdo wx
  have b_y := u64_bdo wy
  by_cases h1 : 64 < fl ∨ 100 < sl
  · exact own_early f0' fl fc k a n x y s0 sl sc w h1
  have hfl : fl ≤ 64 := by omega
  have hsl : sl ≤ 100 := by omega
  by_cases he : acE 64 k a n sl = 0
  · obtain ⟨_, h2, _, _, h3, _, _⟩ := acE_ok he (by omega)
    obtain ⟨A, rfl⟩ := Int.eq_ofNat_of_zero_le h2
    obtain ⟨N, rfl⟩ := Int.eq_ofNat_of_zero_le h3
    by_cases h0 : lf.length = 0
    · exact own_ok_empty f0' fl fc lf k x y s0 sl sc l A N w bx b_y h hb hfl hr hl hsl he h0
    · exact own_ok_row f0' fl fc lf k x y s0 sl sc l A N w bx b_y h hb hfl hr hl hsl he h0
  · by_cases h0 : lf.length = 0
    · exact own_bad_empty f0' fl fc lf k a n x y s0 sl sc l w bx b_y h hb hfl hr hl hsl _ he rfl h0
    · exact own_bad_row f0' fl fc lf k a n x y s0 sl sc l w bx b_y h hb hfl hr hl hsl _ he rfl h0
end Go.Proofs.Ytkbjbpaeoopkfaa
