/- A fix in memory: New; fixes as a family of machines. Conditions: as each says. -/
import Derived.Test.YtggjhleomocojaaGreatFi
namespace Go.Proofs.YtggjhleomocojaaGreat
set_option maxRecDepth 100000
open Go.RowKit
set_option linter.unusedVariables false
set_option linter.unusedSimpArgs false
theorem pboxG3 (w : World) (x0 x1 x2 : Array Value) (t0 t1 t2 : TypeId) : ∃ w3, w3 = ((w.alloc (.cells x0 t0)).alloc (.cells x1 t1)).alloc (.cells x2 t2) ∧ Blk w3 w.heap.size x0.toList ∧ Blk w3 (w.heap.size + 1) x1.toList ∧ Blk w3 (w.heap.size + 1 + 1) x2.toList ∧ w3.heap.size = w.heap.size + 1 + 1 + 1 ∧ Below w.heap.size w w3 := by
 refine ⟨_, rfl, ?_, ?_, ?_, by simp, by go_grown⟩
 ·exact ((Blk.made w x0 t0).alloc _).alloc _
 ·have := (Blk.made (w.alloc (.cells x0 t0)) x1 t1).alloc (.cells x2 t2)
  simpa using this
 ·have := Blk.made ((w.alloc (.cells x0 t0)).alloc (.cells x1 t1)) x2 t2
  simpa using this
set_option maxHeartbeats 4000000 in
theorem fNew_any (b s : Int) (w : World) (hb0 : -9223372036854775808 ≤ b) (hb1 : b ≤ 9223372036854775807) (hs0 : -9223372036854775808 ≤ s) (hs1 : s ≤ 9223372036854775807) :
  Calls Tryz.prog 92 #[.agg #[.int .i64 b, .int .i64 s]] w fun e w' => ∃ q, e = .returned (.pointer (some ⟨q, 0, none⟩)) ∧ w.heap.size ≤ q ∧ q < w'.heap.size ∧ FixI w' (fun k => w.heap.size ≤ k ∧ k < w'.heap.size ∧ k ≠ q) q (FixC.init ⟨b, s⟩) ∧ Below w.heap.size w w' := by
 go_enter Tryz.func92, Tryz.ntmps92
 go_upto_region 2 with fail
 obtain ⟨w3, hw3, x0, x1, x2, hs3, bb3⟩ := pboxG3 w #[.int .i64 b, .int .i64 s] #[.int .i64 0, .int .i64 0, .int .i64 0, .int .u64 0, .int .u64 0, .slice none 0 0, .nilFunc, .int .i64 b, .int .i64 s, .int .i64 0, .int .i64 0, .int .i64 0, .int .i64 10] #[.pointer (some ⟨w.heap.size + 1, 0, none⟩)] 25 198 159
 rw [← hw3]
 have B3 := Lib.hid bb3
 have X0 := Lib.hid x0
 have X1 := Lib.hid x1
 have X2 := Lib.hid x2
 have c0 := x0.cell 0
 have c1 := x0.cell 1
 have c2 := x2.cell 0
 simp only [List.getElem?_cons_zero, List.getElem?_cons_succ] at c0 c1 c2
 have l0 : w.heap.size < w3.heap.size := by omega
 have l1 : w.heap.size + 1 < w3.heap.size := by omega
 have l2 : w.heap.size + 1 + 1 < w3.heap.size := by omega
 clear hw3 x0 x1 x2 bb3
 go_wp2_with fail
 refine (rCheck_any b s _ hb0 hb1 hs0 hs1).mono ?_
 rintro e w4 ⟨rfl, b4⟩
 have z4 := b4.size
 have B4 := Lib.hid (B3.out.trans (b4.mono (by omega)))
 have Y0 := Lib.hid (X0.out.below b4 l0)
 have Y1 := Lib.hid (X1.out.below b4 l1)
 have Y2 := Lib.hid (X2.out.below b4 l2)
 have c0 := Y0.out.cell 0
 have c1 := Y0.out.cell 1
 have c2 := Y2.out.cell 0
 have f12 := Y1.out.frozen 12
 have c12 := Y1.out.cell 12
 simp only [List.getElem?_cons_zero, List.getElem?_cons_succ] at c0 c1 c2 c12
 have l0 : w.heap.size < w4.heap.size := by omega
 have l1 : w.heap.size + 1 < w4.heap.size := by omega
 have l2 : w.heap.size + 1 + 1 < w4.heap.size := by omega
 clear b4 X0 X1 X2 B3
 by_cases hg : rgOk b s = true
 ·have hE : rgE b s = 0 := if_pos hg
  have HG := Lib.hid hg
  obtain ⟨g1, g2, g3, g4, g5, g6⟩ := rgOk_bd hg
  have W1 : IntKind.i64.wrap (b + s) = b + s := IntWalk.i64_in _ ⟨by omega, by omega⟩
  have W2 : IntKind.i64.wrap (b + s + 16) = b + s + 16 := IntWalk.i64_in _ ⟨by omega, by omega⟩
  rw [hE]
  clear hg g1
  go_upto_region 6 with fail
  obtain ⟨w5, hw5⟩ : ∃ w5, w5 = w4.alloc (.cells #[.int .i64 (b + s)] 3) := ⟨_, rfl⟩
  rw [← hw5]
  have b5 : Below w4.heap.size w4 w5 := by rw [hw5]; go_grown
  have X5 := Lib.hid (show Blk w5 w4.heap.size [.int .i64 (b + s)] by rw [hw5]; exact Blk.made _ _ _)
  have z5 : w5.heap.size = w4.heap.size + 1 := by rw [hw5]; simp
  have M5 := Lib.hid (show Mch w5 (w.heap.size + 1) accZ .nilFunc (FixM.rest ⟨⟨b, s⟩, .h0, 0, 0, 0, 10⟩) from Y1.out.below b5 l1)
  have Z2 := Lib.hid (Y2.out.below b5 l2)
  have B5 := Lib.hid (B4.out.trans (b5.mono (by omega)))
  have d2 := Z2.out.cell 0
  have d5 := X5.out.cell 0
  simp only [List.getElem?_cons_zero] at d2 d5
  clear hw5 b5 c0 c1 c2 c12 f12
  go_region_held3 (fun w' => w'.cell? ⟨w.heap.size + 1 + 1, 0, none⟩ = some (.pointer (some ⟨w.heap.size + 1, 0, none⟩)) ∧ w'.cell? ⟨w4.heap.size, 0, none⟩ = some (.int .i64 (b + s))) (first | go_keep | trivial)
   (first
    | (go_at_call 36; refine (cLoad_any (w.heap.size + 1) _ _ _ (b + s + 16) 8 _ _ _ (Blk.drew M5.out)).mono ?_; rintro e w6 ⟨rfl, t6, m6, l6, k6⟩; have hd0 := fun o => k6.cell (b := w.heap.size + 1 + 1) o (by simp; omega) (by show ¬ w.heap.size + 1 + 1 = w.heap.size + 1; omega); have hd1 := fun o => k6.cell (b := w4.heap.size) o (by simp; omega) (by show ¬ w4.heap.size = w.heap.size + 1; omega)))
  all_goals
   have e2 := (hd0 0).trans d2
   have z6 := k6.size
   simp at z6
   have y2 : w.heap.size + 1 + 1 < w6.heap.size := by omega
   clear hd0 hd1
   go_wp2
   go_ret
   have hi : FixC.init ⟨b, s⟩ = ⟨⟨b, s⟩, .h0, 0, 0, 0, 10⟩ := by unfold FixC.init; dsimp only; rw [HG.out]; rfl
   rw [hi]
   refine ⟨_, rfl, by omega, by omega, ⟨⟨_, m6, _, l6.mono (fun i hi => ?_), Clo.mk2 ?_ ?_ ?_ ?_⟩, fun h => h.2.2 rfl, fun _ => HG.out, trivial⟩, (bel_drewN 1 B5.out).trans (k6.below (B := w.heap.size) (by simp; omega) (fun k h1 h2 => by have h2 : k = w.heap.size + 1 := h2; omega))⟩
   ·have h1 := hi.1
    simp at h1
    exact ⟨by omega, hi.2, by omega⟩
   ·exact (Blk.drew Z2.out).keep k6 (by show ¬ w.heap.size + 1 + 1 = w.heap.size + 1; omega)
   ·exact ⟨by omega, by omega, by omega⟩
   ·exact (Blk.drew X5.out).keep k6 (by show ¬ w4.heap.size = w.heap.size + 1; omega)
   ·exact ⟨by omega, by omega, by omega⟩
 ·have hE : rgE b s = 1 := if_neg hg
  have hg' : rgOk b s = false := by simpa using hg
  have HG := Lib.hid hg'
  rw [hE]
  clear hg hg'
  go_wp2
  go_ret
  have hi : FixC.init ⟨b, s⟩ = ⟨⟨b, s⟩, .done, 0, 0, 0, 1⟩ := by unfold FixC.init; dsimp only; rw [HG.out]; rfl
  rw [hi]
  refine ⟨_, rfl, by omega, by simp; omega, ⟨⟨.nilFunc, ?_, rfl⟩, fun h => h.2.2 rfl, nofun, trivial⟩, ?_⟩
  ·exact Y1.out.set 12 (.int .i64 1)
  ·exact B4.out.setCell (by simp) _
def FixF (w : World) (F : Nat → Prop) (q : Nat) (m : FixM) : Prop := F q ∧ (∀ i, F i → i < w.heap.size) ∧ ∃ O, (∀ i, O i → F i ∧ i ≠ q) ∧ FixI w O q m
variable {q : Nat} {m : FixM}
theorem FixF.mono {w : World} {F F' : Nat → Prop} (h : FixF w F q m) (h1 : ∀ i, F i → F' i) (h2 : ∀ i, F' i → i < w.heap.size) : FixF w F' q m := by
 obtain ⟨a1, a2, O, hO, hI⟩ := h
 exact ⟨h1 q a1, h2, O, fun i hi => ⟨h1 i (hO i hi).1, (hO i hi).2⟩, hI⟩
theorem FixF.keep {w w' : World} {F K : Nat → Prop} (h : FixF w F q m) (k : Keep K w w') (hd : ∀ i, F i → ¬ K i) : FixF w' F q m := by
 obtain ⟨a1, a2, O, hO, hI⟩ := h
 exact ⟨a1, fun i hi => Nat.lt_of_lt_of_le (a2 i hi) k.size, O, hO, hI.keep k (fun i hi => hd i (hO i hi).1) (hd q a1)⟩
theorem fNew_f (b s : Int) (w : World) (hb0 : -9223372036854775808 ≤ b) (hb1 : b ≤ 9223372036854775807) (hs0 : -9223372036854775808 ≤ s) (hs1 : s ≤ 9223372036854775807) :
  Calls Tryz.prog 92 #[.agg #[.int .i64 b, .int .i64 s]] w fun e w' => ∃ q, e = .returned (.pointer (some ⟨q, 0, none⟩)) ∧ w.heap.size ≤ q ∧ FixF w' (fun k => w.heap.size ≤ k ∧ k < w'.heap.size) q (FixC.init ⟨b, s⟩) ∧ Below w.heap.size w w' := by
 refine (fNew_any b s w hb0 hb1 hs0 hs1).mono ?_
 rintro e w' ⟨q, rfl, h1, h2, h3, h4⟩
 exact ⟨q, rfl, h1, ⟨⟨h1, h2⟩, fun i hi => hi.2, _, fun i hi => ⟨⟨hi.1, hi.2.1⟩, hi.2.2⟩, h3⟩, h4⟩
theorem fTake_f {F : Nat → Prop} (x : AN) (s0 : Option Addr) (sl sc : Nat) (w : World) (h : FixF w F q m) (hl : m.live = true) (hx : inU x.v) :
  Calls Tryz.prog 217 #[.pointer (some ⟨q, 0, none⟩), .agg #[.int .u64 x.v, .bool x.d, .slice s0 sl sc]] w fun e w' => e = .returned (.tuple #[]) ∧ ∃ F', FixF w' F' q (m.step x) ∧ (∀ i, F' i → F i ∨ w.heap.size ≤ i) ∧ Keep F w w' := by
 obtain ⟨a1, a2, O, hO, hI⟩ := h
 refine (fTake_any x s0 sl sc w hI hl hx).mono ?_
 rintro e w' ⟨rfl, hI', k⟩
 have z := k.size
 have hq := a2 q a1
 refine ⟨rfl, fun i => F i ∨ (w.heap.size ≤ i ∧ i < w'.heap.size), ⟨.inl a1, fun i hi => ?_, _, fun i hi => ?_, hI'⟩, fun i hi => hi.imp id (fun h => h.1), k.mono (fun i _ e => e ▸ a1)⟩
 ·rcases hi with hi | hi
  ·have := a2 i hi
   omega
  ·exact hi.2
 ·rcases hi with hi | hi
  ·exact ⟨.inl (hO i hi).1, (hO i hi).2⟩
  ·exact ⟨.inr hi, by omega⟩
theorem fM_next (b : Nat) (w : World) : (method (Tryz.prog.types.size + Made.depth) 159 (.pointer (some ⟨b, 0, none⟩)) "Next").run Tryz.prog w = .ok (216, .pointer (some ⟨b, 0, none⟩)) w := by kernel_rfl
theorem fM_take (b : Nat) (w : World) : (method (Tryz.prog.types.size + Made.depth) 159 (.pointer (some ⟨b, 0, none⟩)) "Take").run Tryz.prog w = .ok (217, .pointer (some ⟨b, 0, none⟩)) w := by kernel_rfl
theorem enfN (args : Array Value) (w : World) : (callFunc 216 args).run Tryz.prog w = .ok (.enter 216 args) w :=
 enters_of Tryz.func216 (by kernel_rfl) rfl args w
theorem enfT (args : Array Value) (w : World) : (callFunc 217 args).run Tryz.prog w = .ok (.enter 217 args) w :=
 enters_of Tryz.func217 (by kernel_rfl) rfl args w
def fixMac : Mac := ⟨FixM, FixM.live, FixM.want, FixM.step⟩
end Go.Proofs.YtggjhleomocojaaGreat
