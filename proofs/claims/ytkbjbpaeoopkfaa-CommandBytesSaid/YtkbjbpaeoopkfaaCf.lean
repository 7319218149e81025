/- The fixed facts of layer 34 hold. -/
import Derived.Test.YtkbjbpaeoopkfaaCo
namespace Go.Proofs.Ytkbjbpaeoopkfaa
set_option maxRecDepth 100000
open Go.RowKit
set_option linter.unusedVariables false
theorem fxL : coB 1 5 0 0 7 1 = [1, 0, 0, 0, 5, 0, 0, 0, 0, 0, 0, 0, 0, 0, 0, 0, 7, 0, 0, 0, 0, 0, 0, 0, 1, 0, 0, 0, 0, 0, 0, 0] := by decide
theorem fxE : coE 1 5 0 0 7 1 = 0 := by decide
theorem fxP : pzV [] = coV 0 0 0 0 0 0 ∧ pzE [] = 8 := by
  have h : pzOk [] = false := by unfold pzOk; simp
  exact ⟨by unfold pzV; rw [h]; rfl, by unfold pzE; rw [h]; rfl⟩
theorem bcell {W w1 : World} (hb : Below W.heap.size W w1) : (∀ b o, b < W.heap.size → w1.cell? ⟨b, o, none⟩ = W.cell? ⟨b, o, none⟩) ∧ (∀ b o, b < W.heap.size → w1.frozen? ⟨b, o, none⟩ = W.frozen? ⟨b, o, none⟩) :=
  ⟨fun b o h => hb.cell (p := ⟨b, o, none⟩) h, fun b o h => hb.frozen (p := ⟨b, o, none⟩) h⟩
set_option maxHeartbeats 1000000 in
theorem coFixed (w : World) : Calls Try.prog 13 #[] w fun e w' => e = .returned (.bool true) ∧ Below w.heap.size w w' := by
  have HL := Lib.hid fxL
  have HE := Lib.hid fxE
  have HP := Lib.hid fxP
  have HK : Hid (anK 12 = 6 ∧ anE 12 = 12) := ⟨by decide, by decide⟩
  go_enter Try.func13, Try.ntmps13
  go_wp2_with fail
  refine (coBytes_any 1 5 0 0 7 1 _).mono ?_
  rintro e w1 ⟨v, rfl, o1, b1⟩
  rw [HE.out]
  obtain ⟨g, cap, rfl, hg, hlt, hc, hm, hcell⟩ := o1.slice (by rw [HL.out]; decide)
  simp only [HL.out] at hc hcell ⊢
  have q0 := hcell 0 (by decide)
  have q4 := hcell 4 (by decide)
  have z1 := b1.size
  simp at z1 hg
  have z1' : w.heap.size ≤ w1.heap.size := by omega
  have z1s : w.heap.size < w1.heap.size := by omega
  obtain ⟨e0, e1, e2, e3, e4, e5⟩ := cells6 b1
  obtain ⟨vl, hvl⟩ : ∃ n : Nat, n = 32 := ⟨_, rfl⟩
  replace q0 : w1.cell? ⟨g, 0, none⟩ = some (.int .u8 1) := q0
  replace q4 : w1.cell? ⟨g, 4, none⟩ = some (.int .u8 5) := q4
  have B1 : Below w.heap.size w w1 := ((Below.refl w.heap.size w).alloc (Nat.le_refl _) _).trans (b1.mono (by simp))
  clear hcell b1 o1
  go_wp2_with fail
  refine (coParse_any (.slice none 0 0) [] _ (.inl ⟨rfl, rfl⟩) IsB.nil).mono ?_
  rintro e w2 ⟨rfl, b2⟩
  rw [HP.out.1, HP.out.2]
  obtain ⟨c2, f2⟩ := bcell b2
  have z2 := b2.size
  have z2s : w.heap.size < w2.heap.size := by omega
  have z2g : g < w2.heap.size := by omega
  have B2 := B1.trans (b2.mono z1')
  unfold coV
  go_wp2_with fail
  refine (coAnswer_any 1 5 0 0 7 1 12 _).mono ?_
  rintro e w3 ⟨rfl, b3⟩
  rw [HK.out.1, HK.out.2]
  obtain ⟨c3, f3⟩ := bcell b3
  have z3 := b3.size
  simp at z3
  have z3s : w.heap.size < w3.heap.size := by omega
  have z3g : g < w3.heap.size := by omega
  have B3 : Below w.heap.size w w3 := (B2.alloc (by omega) _).trans (b3.mono (by simp <;> omega))
  go_wp2_with fail
  refine (coIs_any 6 5 0 12 7 1 1 5 0 0 7 1 _).mono ?_
  rintro e w4 ⟨rfl, b4⟩
  have z4 := b4.size
  simp at z4
  have B4 : Below w.heap.size w w4 := (B3.alloc (by omega) _).trans (b4.mono (by simp <;> omega))
  rw [show ((6 : Int) == 5 || (6 : Int) == 6) && (7 : Int) == 7 && (1 : Int) == 1 by decide]
  go_wp2
  go_ret
  exact ⟨rfl, B4⟩
end Go.Proofs.Ytkbjbpaeoopkfaa
