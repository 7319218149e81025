/- The walk of the law MembufNil. Conditions: none. -/
import Derived.Test.YtkbjbpaeoopkfaaBi
namespace Go.Proofs.Ytkbjbpaeoopkfaa
set_option maxRecDepth 100000
open Go.RowKit
set_option linter.unusedVariables false
set_option linter.unusedSimpArgs false
theorem acE_or (k a n l : Int) : (if acE 0 k a n l = 0 then 2 else acE 0 k a n l) = 1 ∨ (if acE 0 k a n l = 0 then 2 else acE 0 k a n l) = 2 ∨ ((if acE 0 k a n l = 0 then 2 else acE 0 k a n l) = 3 ∧ acE 0 k a n l = 3) := by
  unfold acE
  split
  · left; rfl
  split
  · right; left; rfl
  split
  · right; right; exact ⟨rfl, rfl⟩
  · right; left; rfl
theorem acE0_not3 (k a n l : Int) (hl : 0 ≤ l) : acE 0 k a n l ≠ 3 := by
  intro h
  unfold acE at h
  split at h
  · cases h
  split at h
  · cases h
  split at h
  · rename_i h1 h2 h3
    have hz : acSized k n l = true := by simpa using h1
    have := acSized_n hz h3.1
    omega
  · cases h
set_option maxHeartbeats 2000000 in
theorem nil_walk (k a n x y : Int) (s0 : Option Addr) (sl sc : Nat) (w : World) :
    Calls Try.prog 11 #[.agg #[.int .i64 k, .int .i64 a, .int .i64 n, .int .u64 x, .int .u64 y, .slice s0 sl sc]] w fun r w' => r = .returned (.bool true) ∧ Below w.heap.size w w' := by
  by_cases hbig : (100 : Int) < (sl : Int)
  · go_enter Try.func11, Try.ntmps11
    go_wp2_with fail
    refine (mFixed _).mono ?_
    rintro r w1 ⟨rfl, b1⟩
    obtain ⟨f0, f1, f2, f3, f4, f5⟩ := cells6b b1
    have B1 : Below w.heap.size w w1 := ((Below.refl w.heap.size w).alloc (Nat.le_refl _) _).trans (b1.mono (by simp))
    go_wp2
    go_ret
    exact ⟨rfl, B1⟩
  obtain ⟨ev, hev⟩ : ∃ ev, ev = (if acE 0 k a n sl = 0 then 2 else acE 0 k a n sl) := ⟨_, rfl⟩
  have h12 : ev = 1 ∨ ev = 2 := by
    have h := acE_or k a n sl
    have h3 := acE0_not3 k a n sl (by omega)
    rw [← hev] at h
    omega
  have HE := Lib.hid hev
  clear hev
  rcases h12 with rfl | rfl
  all_goals
    go_enter Try.func11, Try.ntmps11
    go_wp2_with fail
    refine (mFixed _).mono ?_
    rintro r w1 ⟨rfl, b1⟩
    obtain ⟨f0, f1, f2, f3, f4, f5⟩ := cells6b b1
    have B1 : Below w.heap.size w w1 := ((Below.refl w.heap.size w).alloc (Nat.le_refl _) _).trans (b1.mono (by simp))
    have z1 := b1.size
    clear b1
    go_wp2_with fail
    refine (mDo_nil k a n x y s0 sl sc _).mono ?_
    rintro r w2 ⟨rfl, b2⟩
    rw [← HE.out]
    unfold anV
    have z2 := b2.size
    have B2 := B1.trans (b2.mono B1.size)
    have B3 : Below w.heap.size w (w2.alloc (Obj.cells #[Value.int IntKind.u64 0, Value.bool false, Value.slice none 0 0] 46)) := B2.alloc B2.size _
    go_wp2_with fail
    refine (mSize_nil _).mono ?_
    rintro r w' ⟨rfl, rfl⟩
    go_wp2_with fail
    refine (mCount_nil _).mono ?_
    rintro r w' ⟨rfl, rfl⟩
    go_wp2_with fail
    refine (mBytes_nil _).mono ?_
    rintro r w' ⟨rfl, rfl⟩
    go_wp2
    go_ret
    exact ⟨rfl, B3⟩
theorem nil_said (k a n x y : Int) (s0 : Option Addr) (sl sc : Nat) (l : List Int) (_ : (Lit.int .i64 k).wf = true) (_ : (Lit.int .i64 a).wf = true) (_ : (Lit.int .i64 n).wf = true) (_ : (Lit.int .u64 x).wf = true) (_ : (Lit.int .u64 y).wf = true) (w : World) (_ : RdB w (.slice s0 sl sc) l) (_ : IsB l) :
    Calls Try.prog 11 #[.agg #[.int .i64 k, .int .i64 a, .int .i64 n, .int .u64 x, .int .u64 y, .slice s0 sl sc]] w fun r w' => r = .returned (.bool true) ∧ Below w.heap.size w w' :=
  nil_walk k a n x y s0 sl sc w
end Go.Proofs.Ytkbjbpaeoopkfaa
