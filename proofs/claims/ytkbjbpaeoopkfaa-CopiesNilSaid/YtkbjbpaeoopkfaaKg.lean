/- The walk of the law CopiesNil. Conditions: none. -/
import Derived.Test.YtkbjbpaeoopkfaaKf
namespace Go.Proofs.Ytkbjbpaeoopkfaa
set_option maxRecDepth 100000
open Go.RowKit
set_option linter.unusedVariables false
set_option linter.unusedSimpArgs false
theorem cells3k {w w1 : World} {a b c : Value} {t : TypeId} (h : Below (w.alloc (.cells #[a, b, c] t)).heap.size (w.alloc (.cells #[a, b, c] t)) w1) :
    w1.cell? ⟨w.heap.size, 0, none⟩ = some a ∧ w1.cell? ⟨w.heap.size, 1, none⟩ = some b ∧ w1.cell? ⟨w.heap.size, 2, none⟩ = some c := by
  have e := Blk.below (Blk.made w #[a, b, c] t) h (by simp)
  exact ⟨e.cell 0, e.cell 1, e.cell 2⟩
set_option maxHeartbeats 2000000 in
theorem cpnil_walk (x : Int) (d : Bool) (s0 : Option Addr) (sl sc : Nat) (w : World) :
    Calls Try.prog 6 #[.agg #[.int .u64 x, .bool d, .slice s0 sl sc]] w fun r w' => r = .returned (.bool true) ∧ Below w.heap.size w w' := by
  by_cases hbig : (100 : Int) < (sl : Int)
  · go_enter Try.func6, Try.ntmps6
    go_wp2_with fail
    refine (kFixed _).mono ?_
    rintro r w1 ⟨rfl, b1⟩
    obtain ⟨f0, f1, f2⟩ := cells3k b1
    have B1 : Below w.heap.size w w1 := ((Below.refl w.heap.size w).alloc (Nat.le_refl _) _).trans (b1.mono (by simp))
    go_wp2
    go_ret
    exact ⟨rfl, B1⟩
  go_enter Try.func6, Try.ntmps6
  go_wp2_with fail
  refine (kFixed _).mono ?_
  rintro r w1 ⟨rfl, b1⟩
  obtain ⟨f0, f1, f2⟩ := cells3k b1
  have z1 := b1.size
  simp at z1
  have B1 : Below w.heap.size w w1 := ((Below.refl w.heap.size w).alloc (Nat.le_refl _) _).trans (b1.mono (by simp))
  clear b1
  go_wp2_with fail
  refine (cpTake_nil x d s0 sl sc _).mono ?_
  rintro r w2 ⟨rfl, b2⟩
  have z2 := b2.size
  have B2 := B1.trans (b2.mono (by omega))
  clear b2 f0 f1 f2
  go_wp2_with fail
  refine (cpNext_nil _).mono ?_
  rintro r w3 ⟨rfl, b3⟩
  have z3 := b3.size
  have B3 := B2.trans (b3.mono (by omega))
  clear b3
  unfold Acc.V
  dsimp only
  go_wp2_with fail
  refine (cpOut_none 0 0 _ (by decide)).mono ?_
  rintro r w4 ⟨q, rfl, hq, b4, m4⟩
  have z4 := b4.size
  simp at z4
  have B4 := (B3.alloc (by omega) _).trans (b4.mono (by simp; omega))
  clear b4
  unfold ptr
  go_wp2_with fail
  refine (cpNext_end q _ _ _ m4).mono ?_
  rintro r w5 ⟨s5, rfl, o5, b5⟩
  obtain ⟨x5, n5, c5, rfl⟩ := o5.isSliceC
  have z5 := b5.size
  have B5 := B4.trans (b5.mono (by omega))
  clear b5 o5
  unfold Acc.V
  dsimp only
  go_wp2_with fail
  refine (cpBytes_nil _).mono ?_
  rintro r w6 ⟨rfl, rfl⟩
  go_wp2
  go_ret
  exact ⟨rfl, B5.alloc (by omega) _⟩
theorem cpnil_said (x : Int) (d : Bool) (s0 : Option Addr) (sl sc : Nat) (l : List Int) (_ : (Lit.int .u64 x).wf = true) (w : World) (_ : RdB w (.slice s0 sl sc) l) (_ : IsB l) :
    Calls Try.prog 6 #[.agg #[.int .u64 x, .bool d, .slice s0 sl sc]] w fun r w' => r = .returned (.bool true) ∧ Below w.heap.size w w' :=
  cpnil_walk x d s0 sl sc w
end Go.Proofs.Ytkbjbpaeoopkfaa
