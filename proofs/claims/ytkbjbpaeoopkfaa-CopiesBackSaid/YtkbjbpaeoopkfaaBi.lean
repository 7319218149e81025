/- The fixed facts of layer 2 hold. -/
import Derived.Test.YtkbjbpaeoopkfaaBf
import Derived.Test.YtkbjbpaeoopkfaaBg
import Derived.Test.YtkbjbpaeoopkfaaBh
namespace Go.Proofs.Ytkbjbpaeoopkfaa
set_option maxRecDepth 100000
open Go.RowKit
set_option linter.unusedVariables false
set_option linter.unusedSimpArgs false
theorem mNew_lit (size : Int) (k : Nat) (w : World) (hs : size = 8 * (k : Int)) (h1 : 1 ≤ k) (h2 : k ≤ 16384) :
    Calls Try.prog 33 #[.int .i64 size] w fun e w' => ∃ p c, e = .returned (.tuple #[.pointer (some ⟨p, 0, none⟩), .int .i64 0]) ∧ Buf w' p c 0 (List.replicate (8 * k) 0) ∧ w.heap.size ≤ p ∧ w.heap.size ≤ c ∧ Below w.heap.size w w' := by
  subst hs
  exact mNew_any k w h1 h2
theorem Blk.c6 {w : World} {b : Nat} {x0 x1 x2 x3 x4 x5 : Value} (h : Blk w b [x0, x1, x2, x3, x4, x5]) : w.cell? ⟨b, 0, none⟩ = some x0 ∧ w.cell? ⟨b, 1, none⟩ = some x1 ∧ w.cell? ⟨b, 2, none⟩ = some x2 ∧ w.cell? ⟨b, 3, none⟩ = some x3 ∧ w.cell? ⟨b, 4, none⟩ = some x4 ∧ w.cell? ⟨b, 5, none⟩ = some x5 :=
  ⟨h.cell 0, h.cell 1, h.cell 2, h.cell 3, h.cell 4, h.cell 5⟩
theorem Blk.c3 {w : World} {b : Nat} {x0 x1 x2 : Value} (h : Blk w b [x0, x1, x2]) : w.cell? ⟨b, 0, none⟩ = some x0 ∧ w.cell? ⟨b, 1, none⟩ = some x1 ∧ w.cell? ⟨b, 2, none⟩ = some x2 :=
  ⟨h.cell 0, h.cell 1, h.cell 2⟩
def f16 : List Int := List.replicate 16 0
def f16b : List Int := spl f16 0 (leB 5 8)
def f16c : List Int := spl f16b 0 (leB 10 8)
theorem f16_facts : acE f16.length 3 0 8 0 = 0 ∧ rdN f16 0 8 = 0 ∧ acE f16b.length 3 0 8 0 = 0 ∧ rdN f16b 0 8 = 5 ∧ acE f16c.length 1 4 8 ((0 : Nat) : Int) = 3 ∧ f16c.length = 16 := by decide
set_option maxHeartbeats 2000000 in
theorem mFixed (w : World) : Calls Try.prog 32 #[] w fun e w' => e = .returned (.bool true) ∧ Below w.heap.size w w' := by
  have HF := Lib.hid f16_facts
  go_enter Try.func32, Try.ntmps32
  go_wp2_with fail
  refine (mNew_lit 16 2 _ (by decide) (by decide) (by decide)).mono ?_
  rintro e w1 ⟨p, c, rfl, hb1, hp, hc, b1⟩
  have HB1 := Lib.hid (show Buf w1 p c 0 f16 from hb1)
  have hpl := hb1.hd.lt
  have hcl := hb1.wd.lt
  clear hb1
  go_wp2_with fail
  refine (mDo_add p c 0 f16 0 8 5 0 none 0 0 _ (Buf.alloc HB1.out _) (by decide) (by decide) HF.out.1 (by decide) (by decide)).mono ?_
  rintro e w2 ⟨rfl, hb2, k2⟩
  rw [HF.out.2.1] at hb2
  rw [HF.out.2.1]
  have HB2 := Lib.hid (show Buf w2 p c 1 f16b from hb2)
  have z2 := k2.size
  simp at z2
  have z2s : w1.heap.size < w2.heap.size := by omega
  have nA : ¬ (w1.heap.size = p ∨ w1.heap.size = c) := by omega
  obtain ⟨a0, a1, a2, a3, a4, a5⟩ := ((Blk.made w1 _ _).keep k2 nA).c6
  have K2 : Keep (fun k => k = p ∨ k = c) w1 w2 := ((Keep.refl _ _).alloc _).trans k2
  unfold anV
  clear hb2 k2
  go_wp2_with fail
  refine (mDo_add p c 1 f16b 0 8 5 0 none 0 0 _ (Buf.alloc HB2.out _) (by decide) (by decide) HF.out.2.2.1 (by decide) (by decide)).mono ?_
  rintro e w3 ⟨rfl, hb3, k3⟩
  rw [HF.out.2.2.2.1] at hb3
  rw [HF.out.2.2.2.1]
  have HB3 := Lib.hid (show Buf w3 p c 2 f16c from hb3)
  have z3 := k3.size
  simp at z3
  have nX : ¬ (w2.heap.size = p ∨ w2.heap.size = c) := by omega
  have X3 := Lib.hid ((Blk.made w2 _ _).keep k3 nX)
  have K3 : Keep (fun k => k = p ∨ k = c) w1 w3 := (K2.alloc _).trans k3
  unfold anV
  clear hb3 k3 a0 a1 a2 a3 a4 a5
  go_wp2_with fail
  refine (mDo_bad p c 2 f16c 1 4 8 0 0 none 0 0 _ (Buf.alloc HB3.out _) (by rw [HF.out.2.2.2.2.1]; decide)).mono ?_
  rintro e w4 ⟨rfl, b4⟩
  rw [HF.out.2.2.2.2.1]
  have HB4 := Lib.hid ((Buf.alloc HB3.out _).belows b4)
  have z4 := b4.size
  simp at z4
  have X4 := Lib.hid ((X3.out.alloc _).below b4 (by simp; omega))
  have Y4 := Lib.hid ((Blk.made w3 _ _).below b4 (by simp))
  have K4 : Keep (fun k => k = p ∨ k = c) w1 w4 := (K3.alloc _).trans (Below.keeps b4)
  unfold anV
  clear b4
  go_wp2_with fail
  refine (mNew_bad 9 _ (by decide) (by decide)).mono ?_
  rintro e w' ⟨rfl, rfl⟩
  obtain ⟨x0, x1, x2⟩ := X4.out.c3
  obtain ⟨y0, y1, y2⟩ := Y4.out.c3
  have lx : w2.heap.size < w4.heap.size := by omega
  have ly : w3.heap.size < w4.heap.size := by omega
  go_wp2_with fail
  refine (mCount_any p c 2 f16c _ (HB4.out.alloc _)).mono ?_
  rintro e w' ⟨rfl, rfl⟩
  go_wp2_with fail
  refine (mSize_any p c 2 f16c _ (HB4.out.alloc _)).mono ?_
  rintro e w' ⟨rfl, rfl⟩
  rw [HF.out.2.2.2.2.2]
  go_wp2
  go_ret
  refine ⟨rfl, ?_⟩
  have B4 : Below w.heap.size w1 w4 := K4.below b1.size (by intro k h; omega)
  exact (b1.trans B4).alloc (by have := b1.size; omega) _
end Go.Proofs.Ytkbjbpaeoopkfaa
