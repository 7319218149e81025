/- The walk of the law CommandBytes. Conditions: the fields are in their kinds' ranges. -/
import Derived.Test.YtkbjbpaeoopkfaaCx
import Derived.Test.YtkbjbpaeoopkfaaCn
import Derived.Test.YtkbjbpaeoopkfaaCt
import Derived.Deep.RegionHeld3
namespace Go.Proofs.Ytkbjbpaeoopkfaa
set_option maxRecDepth 100000
open Go.RowKit
set_option linter.unusedVariables false
set_option linter.unusedSimpArgs false
theorem RdB.past1 {w w' : World} {v : Value} {l : List Int} (h : RdB w v l) (hb : Below w.heap.size w w') : RdB w' v l := h.below hb
set_option maxHeartbeats 4000000 in
theorem bytes_walk (k st se er co cl : Int) (a1 : -2147483648 ≤ k ∧ k ≤ 2147483647) (a2 : -2147483648 ≤ st ∧ st ≤ 2147483647) (a3 : -2147483648 ≤ se ∧ se ≤ 2147483647) (a4 : -2147483648 ≤ er ∧ er ≤ 2147483647)
    (a5 : -9223372036854775808 ≤ co ∧ co ≤ 9223372036854775807) (a6 : -9223372036854775808 ≤ cl ∧ cl ≤ 9223372036854775807) (w : World) :
    Calls Try.prog 5 #[.agg #[.int .i32 k, .int .i32 st, .int .i32 se, .int .i32 er, .int .i64 co, .int .i64 cl]] w fun r w' => r = .returned (.bool true) ∧ Below w.heap.size w w' := by
  rcases hok : coOk k st se er co cl with _ | _
  · have HE := Lib.hid (coE_no hok)
    have HO := Lib.hid hok
    have HB := Lib.hid (show coB k st se er co cl = [] by unfold coB; rw [hok]; rfl)
    have HK := Lib.hid (show coKd k st se er co cl = 0 by unfold coKd; rw [hok]; rfl)
    clear hok
    go_enter Try.func5, Try.ntmps5
    go_wp2_with fail
    refine (coFixed _).mono ?_
    rintro r w1 ⟨rfl, b1⟩
    obtain ⟨f0, f1, f2, f3, f4, f5⟩ := cells6 b1
    have z1 : w.heap.size + 1 ≤ w1.heap.size := by
      have := b1.size
      simpa using this
    have z1s : w.heap.size < w1.heap.size := by omega
    have B1 : Below w.heap.size w w1 := ((Below.refl w.heap.size w).alloc (Nat.le_refl _) _).trans (b1.mono (by simp))
    clear b1
    go_wp2_with fail
    refine (coBytes_any k st se er co cl _).mono ?_
    rintro r w2 ⟨v2, rfl, o2, b2⟩
    obtain ⟨x2, n2, c2, rfl⟩ := o2.isSlice
    rw [HE.out]
    rw [HB.out] at o2
    have l2 := Lib.hid (RdB.isSlice o2.rd)
    have z2 := b2.size
    have z2s : w.heap.size < w2.heap.size := by omega
    have B2 : Below w.heap.size w w2 := B1.trans (b2.mono (by omega))
    have R2 := Lib.hid o2.rd
    have g2 := fun o => b2.cell (p := ⟨w.heap.size, o, none⟩) z1s
    rw [← g2] at f0 f1 f2 f3 f4 f5
    clear g2 o2 b2
    go_wp2_with fail
    refine (coMessage_any k st se er co cl _).mono ?_
    rintro r w3 ⟨v3, rfl, o3, b3⟩
    obtain ⟨x3, n3, c3, rfl⟩ := o3.isSlice
    rw [HE.out, HK.out]
    rw [HB.out] at o3
    have l3 := Lib.hid (RdB.isSlice o3.rd)
    have z3 := b3.size
    have z3s : w.heap.size < w3.heap.size := by omega
    have B3 : Below w.heap.size w w3 := B2.trans (b3.mono (by omega))
    have R3 := Lib.hid (R2.out.below b3)
    have Q3 := Lib.hid o3.rd
    have g3 := fun o => b3.cell (p := ⟨w.heap.size, o, none⟩) z2s
    rw [← g3] at f0 f1 f2 f3 f4 f5
    clear g3 o3 b3 R2
    go_wp2_with fail
    refine (refRight_any k st se er co cl _).mono ?_
    rintro r w4 ⟨rfl, b4⟩
    rw [HO.out]
    have z4 := b4.size
    simp at z4
    have z4s : w.heap.size < w4.heap.size := by omega
    have z4m : w3.heap.size < w4.heap.size := by omega
    have B4 : Below w.heap.size w w4 := (B3.alloc (by omega) _).trans (b4.mono (by simp <;> omega))
    have R4 := Lib.hid ((R3.out.below (Below.alloc (Below.refl _ _) (Nat.le_refl _) _)).below b4)
    have Q4 := Lib.hid ((Q3.out.below (Below.alloc (Below.refl _ _) (Nat.le_refl _) _)).below b4)
    have g4 := fun o => b4.cell (p := ⟨w.heap.size, o, none⟩) (by simp; try omega)
    have m0 : w4.cell? ⟨w3.heap.size, 0, none⟩ = some (.int .i32 (0)) := (b4.cell (p := ⟨w3.heap.size, 0, none⟩) (by simp)).trans (by go_simp)
    have m1 : w4.cell? ⟨w3.heap.size, 1, none⟩ = some (.slice x3 n3 c3) := (b4.cell (p := ⟨w3.heap.size, 1, none⟩) (by simp)).trans (by go_simp)
    have f0 : w4.cell? ⟨w.heap.size, 0, none⟩ = some (.int .i32 k) := (g4 0).trans (by go_simp)
    have f1 : w4.cell? ⟨w.heap.size, 1, none⟩ = some (.int .i32 st) := (g4 1).trans (by go_simp)
    have f2 : w4.cell? ⟨w.heap.size, 2, none⟩ = some (.int .i32 se) := (g4 2).trans (by go_simp)
    have f3 : w4.cell? ⟨w.heap.size, 3, none⟩ = some (.int .i32 er) := (g4 3).trans (by go_simp)
    have f4 : w4.cell? ⟨w.heap.size, 4, none⟩ = some (.int .i64 co) := (g4 4).trans (by go_simp)
    have f5 : w4.cell? ⟨w.heap.size, 5, none⟩ = some (.int .i64 cl) := (g4 5).trans (by go_simp)
    clear g4 b4 R3 Q3
    obtain ⟨_, _, _, e2, d2⟩ := l2.out
    cases e2
    obtain ⟨_, _, _, e3, d3⟩ := l3.out
    cases e3
    simp at d2 d3
    subst d2 d3
    go_wp2_with fail
    refine (coCheck_any k st se er co cl _).mono ?_
    rintro r w5 ⟨rfl, b5⟩
    rw [HE.out]
    have z5 := b5.size
    have g5 := b5.cell (p := ⟨w3.heap.size, 1, none⟩) (by simp; try omega)
    have B5 : Below w.heap.size w w5 := B4.trans (b5.mono (by omega))
    go_wp2
    go_ret
    exact ⟨rfl, B5⟩
  · have HE := Lib.hid (coE_ok hok)
    have HO := Lib.hid hok
    have HB := Lib.hid (show coB k st se er co cl = coL k st se er co cl by unfold coB; rw [if_pos hok])
    have HK := Lib.hid (show coKd k st se er co cl = k by unfold coKd; rw [if_pos hok])
    have HP := Lib.hid (pz_coL k st se er co cl a1 a2 a3 a4 a5 a6 hok)
    clear hok
    go_enter Try.func5, Try.ntmps5
    go_wp2_with fail
    refine (coFixed _).mono ?_
    rintro r w1 ⟨rfl, b1⟩
    obtain ⟨f0, f1, f2, f3, f4, f5⟩ := cells6 b1
    have z1 : w.heap.size + 1 ≤ w1.heap.size := by
      have := b1.size
      simpa using this
    have z1s : w.heap.size < w1.heap.size := by omega
    have B1 : Below w.heap.size w w1 := ((Below.refl w.heap.size w).alloc (Nat.le_refl _) _).trans (b1.mono (by simp))
    clear b1
    go_wp2_with fail
    refine (coBytes_any k st se er co cl _).mono ?_
    rintro r w2 ⟨v2, rfl, o2, b2⟩
    obtain ⟨x2, n2, c2, rfl⟩ := o2.isSlice
    rw [HE.out]
    rw [HB.out] at o2
    have l2 := Lib.hid (RdB.isSlice o2.rd)
    have z2 := b2.size
    have z2s : w.heap.size < w2.heap.size := by omega
    have B2 : Below w.heap.size w w2 := B1.trans (b2.mono (by omega))
    have R2 := Lib.hid o2.rd
    have g2 := fun o => b2.cell (p := ⟨w.heap.size, o, none⟩) z1s
    rw [← g2] at f0 f1 f2 f3 f4 f5
    clear g2 o2 b2
    go_wp2_with fail
    refine (coMessage_any k st se er co cl _).mono ?_
    rintro r w3 ⟨v3, rfl, o3, b3⟩
    obtain ⟨x3, n3, c3, rfl⟩ := o3.isSlice
    rw [HE.out, HK.out]
    rw [HB.out] at o3
    have l3 := Lib.hid (RdB.isSlice o3.rd)
    have z3 := b3.size
    have z3s : w.heap.size < w3.heap.size := by omega
    have B3 : Below w.heap.size w w3 := B2.trans (b3.mono (by omega))
    have R3 := Lib.hid (R2.out.below b3)
    have Q3 := Lib.hid o3.rd
    have g3 := fun o => b3.cell (p := ⟨w.heap.size, o, none⟩) z2s
    rw [← g3] at f0 f1 f2 f3 f4 f5
    clear g3 o3 b3 R2
    go_wp2_with fail
    refine (refRight_any k st se er co cl _).mono ?_
    rintro r w4 ⟨rfl, b4⟩
    rw [HO.out]
    have z4 := b4.size
    simp at z4
    have z4s : w.heap.size < w4.heap.size := by omega
    have z4m : w3.heap.size < w4.heap.size := by omega
    have B4 : Below w.heap.size w w4 := (B3.alloc (by omega) _).trans (b4.mono (by simp <;> omega))
    have R4 := Lib.hid ((R3.out.below (Below.alloc (Below.refl _ _) (Nat.le_refl _) _)).below b4)
    have Q4 := Lib.hid ((Q3.out.below (Below.alloc (Below.refl _ _) (Nat.le_refl _) _)).below b4)
    have g4 := fun o => b4.cell (p := ⟨w.heap.size, o, none⟩) (by simp; try omega)
    have m0 : w4.cell? ⟨w3.heap.size, 0, none⟩ = some (.int .i32 (k)) := (b4.cell (p := ⟨w3.heap.size, 0, none⟩) (by simp)).trans (by go_simp)
    have m1 : w4.cell? ⟨w3.heap.size, 1, none⟩ = some (.slice x3 n3 c3) := (b4.cell (p := ⟨w3.heap.size, 1, none⟩) (by simp)).trans (by go_simp)
    have f0 : w4.cell? ⟨w.heap.size, 0, none⟩ = some (.int .i32 k) := (g4 0).trans (by go_simp)
    have f1 : w4.cell? ⟨w.heap.size, 1, none⟩ = some (.int .i32 st) := (g4 1).trans (by go_simp)
    have f2 : w4.cell? ⟨w.heap.size, 2, none⟩ = some (.int .i32 se) := (g4 2).trans (by go_simp)
    have f3 : w4.cell? ⟨w.heap.size, 3, none⟩ = some (.int .i32 er) := (g4 3).trans (by go_simp)
    have f4 : w4.cell? ⟨w.heap.size, 4, none⟩ = some (.int .i64 co) := (g4 4).trans (by go_simp)
    have f5 : w4.cell? ⟨w.heap.size, 5, none⟩ = some (.int .i64 cl) := (g4 5).trans (by go_simp)
    clear g4 b4 R3 Q3
    go_wp2_with fail
    refine (coParse_any _ (coL k st se er co cl) _ R4.out (coL_is _ _ _ _ _ _)).mono ?_
    rintro r w5 ⟨rfl, b5⟩
    rw [HP.out.1, HP.out.2]
    unfold coV
    have z5 := b5.size
    have z5s : w.heap.size < w5.heap.size := by omega
    have z5m : w3.heap.size < w5.heap.size := by omega
    have B5 : Below w.heap.size w w5 := B4.trans (b5.mono (by omega))
    have R5 := Lib.hid (R4.out.below b5)
    have Q5 := Lib.hid (Q4.out.below b5)
    have g5 := fun o => b5.cell (p := ⟨w.heap.size, o, none⟩) z4s
    have h5 := fun o => b5.cell (p := ⟨w3.heap.size, o, none⟩) z4m
    rw [← g5] at f0 f1 f2 f3 f4 f5
    rw [← h5] at m0 m1
    clear g5 h5 b5 R4 Q4
    obtain ⟨w6, hw6⟩ : ∃ w6, w6 = w5.alloc (Obj.cells #[Value.int IntKind.i32 k, Value.int IntKind.i32 st, Value.int IntKind.i32 se, Value.int IntKind.i32 er, Value.int IntKind.i64 co, Value.int IntKind.i64 cl] 25) := ⟨_, rfl⟩
    have R6 := Lib.hid (show RdB (w5.alloc (Obj.cells #[Value.int IntKind.i32 k, Value.int IntKind.i32 st, Value.int IntKind.i32 se, Value.int IntKind.i32 er, Value.int IntKind.i64 co, Value.int IntKind.i64 cl] 25)) (.slice x2 n2 c2) (coL k st se er co cl) from R5.out.below (Below.alloc (Below.refl _ _) (Nat.le_refl _) _))
    have Q6 := Lib.hid (show RdB (w5.alloc (Obj.cells #[Value.int IntKind.i32 k, Value.int IntKind.i32 st, Value.int IntKind.i32 se, Value.int IntKind.i32 er, Value.int IntKind.i64 co, Value.int IntKind.i64 cl] 25)) (.slice x3 n3 c3) (coL k st se er co cl) from Q5.out.below (Below.alloc (Below.refl _ _) (Nat.le_refl _) _))
    clear hw6 w6
    have V6 := conv_rd (w := (w5.alloc _).drew) 22 9 Try.underlying22 Try.underlying9 (RdB.drewN 1 R6.out)
    have U6 := conv_rd (w := (w5.alloc _).drew) 22 9 Try.underlying22 Try.underlying9 (RdB.drewN 1 Q6.out)
    go_wp2
    refine wp_region_held_drew (S := (fun w' => w'.cell? ⟨w.heap.size, 0, none⟩ = some (.int .i32 k) ∧ w'.cell? ⟨w.heap.size, 1, none⟩ = some (.int .i32 st) ∧ w'.cell? ⟨w.heap.size, 2, none⟩ = some (.int .i32 se) ∧ w'.cell? ⟨w.heap.size, 3, none⟩ = some (.int .i32 er) ∧ w'.cell? ⟨w.heap.size, 4, none⟩ = some (.int .i64 co) ∧ w'.cell? ⟨w.heap.size, 5, none⟩ = some (.int .i64 cl) ∧ w'.cell? ⟨w3.heap.size, 0, none⟩ = some (.int .i32 k) ∧ w'.cell? ⟨w3.heap.size, 1, none⟩ = some (.slice x3 n3 c3) ∧ w'.cell? ⟨w5.heap.size, 0, none⟩ = some (.int .i32 k) ∧ w'.cell? ⟨w5.heap.size, 1, none⟩ = some (.int .i32 st) ∧ w'.cell? ⟨w5.heap.size, 2, none⟩ = some (.int .i32 se) ∧ w'.cell? ⟨w5.heap.size, 3, none⟩ = some (.int .i32 er) ∧ w'.cell? ⟨w5.heap.size, 4, none⟩ = some (.int .i64 co) ∧ w'.cell? ⟨w5.heap.size, 5, none⟩ = some (.int .i64 cl) ∧ (convert 22 9 (.slice x2 n2 c2)).run Try.prog w' = .ok (.string (strOfNums (coL k st se er co cl))) w' ∧ (convert 22 9 (.slice x3 n3 c3)).run Try.prog w' = .ok (.string (strOfNums (coL k st se er co cl))) w')) (by kernel_rfl) ?_ (fun hHeld => ?_)
    · try dsimp only
      go_keep
    refine wpAnyH_take (i := 0) (v := ?_) rfl (by kernel_rfl) (by kernel_rfl) (by kernel_rfl) (fun _ _ _ h => h) (Or.inl ⟨by rfl, ?_⟩) (by assumption) ?_
    rotate_left
    · intro w0 hSw
      (try dsimp only at hSw)
      go_simp
      try with_reducible rfl
    simp only [Act.put, List.getElem_toArray, List.getElem_cons_zero, List.getElem_cons_succ, List.setIfInBounds_toArray, List.set_cons_zero, List.set_cons_succ]
    refine wpAnyH_take (i := 1) (v := ?_) rfl (by kernel_rfl) (by kernel_rfl) (by kernel_rfl) (fun _ _ _ h => h) (Or.inl ⟨by rfl, ?_⟩) (by assumption) ?_
    rotate_left
    · intro w0 hSw
      (try dsimp only at hSw)
      go_simp
      try with_reducible rfl
    simp only [Act.put, List.getElem_toArray, List.getElem_cons_zero, List.getElem_cons_succ, List.setIfInBounds_toArray, List.set_cons_zero, List.set_cons_succ]
    refine wpAnyH_take (i := 2) (v := ?_) rfl (by kernel_rfl) (by kernel_rfl) (by kernel_rfl) (fun _ _ _ h => h) (Or.inl ⟨by rfl, ?_⟩) (by assumption) ?_
    rotate_left
    · intro w0 hSw
      (try dsimp only at hSw)
      go_simp
      try with_reducible rfl
    simp only [Act.put, List.getElem_toArray, List.getElem_cons_zero, List.getElem_cons_succ, List.setIfInBounds_toArray, List.set_cons_zero, List.set_cons_succ]
    refine wpAnyH_take (i := 3) (v := ?_) rfl (by kernel_rfl) (by kernel_rfl) (by kernel_rfl) (fun _ _ _ h => h) (Or.inl ⟨by rfl, ?_⟩) (by assumption) ?_
    rotate_left
    · intro w0 hSw
      (try dsimp only at hSw)
      go_simp
      try with_reducible rfl
    simp only [Act.put, List.getElem_toArray, List.getElem_cons_zero, List.getElem_cons_succ, List.setIfInBounds_toArray, List.set_cons_zero, List.set_cons_succ]
    refine wpAnyH_take (i := 4) (v := ?_) rfl (by kernel_rfl) (by kernel_rfl) (by kernel_rfl) (fun _ _ _ h => h) (Or.inl ⟨by rfl, ?_⟩) (by assumption) ?_
    rotate_left
    · intro w0 hSw
      (try dsimp only at hSw)
      go_simp
      try with_reducible rfl
    simp only [Act.put, List.getElem_toArray, List.getElem_cons_zero, List.getElem_cons_succ, List.setIfInBounds_toArray, List.set_cons_zero, List.set_cons_succ]
    refine wpAnyH_take (i := 5) (v := ?_) rfl (by kernel_rfl) (by kernel_rfl) (by kernel_rfl) (fun _ _ _ h => h) (Or.inl ⟨by rfl, ?_⟩) (by assumption) ?_
    rotate_left
    · intro w0 hSw
      (try dsimp only at hSw)
      go_simp
      try with_reducible rfl
    simp only [Act.put, List.getElem_toArray, List.getElem_cons_zero, List.getElem_cons_succ, List.setIfInBounds_toArray, List.set_cons_zero, List.set_cons_succ]
    refine wpAnyH_take (i := 6) (v := ?_) rfl (by kernel_rfl) (by kernel_rfl) (by kernel_rfl) (fun _ _ _ h => h) (Or.inl ⟨by rfl, ?_⟩) (by assumption) ?_
    rotate_left
    · intro w0 hSw
      (try dsimp only at hSw)
      go_simp
      try with_reducible rfl
    simp only [Act.put, List.getElem_toArray, List.getElem_cons_zero, List.getElem_cons_succ, List.setIfInBounds_toArray, List.set_cons_zero, List.set_cons_succ]
    refine wpAnyH_take (i := 7) (v := ?_) rfl (by kernel_rfl) (by kernel_rfl) (by kernel_rfl) (fun _ _ _ h => h) (Or.inl ⟨by rfl, ?_⟩) (by assumption) ?_
    rotate_left
    · intro w0 hSw
      (try dsimp only at hSw)
      go_simp
      try with_reducible rfl
    simp only [Act.put, List.getElem_toArray, List.getElem_cons_zero, List.getElem_cons_succ, List.setIfInBounds_toArray, List.set_cons_zero, List.set_cons_succ]
    refine wpAnyH_take (i := 8) (v := ?_) rfl (by kernel_rfl) (by kernel_rfl) (by kernel_rfl) (fun _ _ _ h => h) (Or.inl ⟨by rfl, ?_⟩) (by assumption) ?_
    rotate_left
    · intro w0 hSw
      (try dsimp only at hSw)
      go_simp
      try with_reducible rfl
    simp only [Act.put, List.getElem_toArray, List.getElem_cons_zero, List.getElem_cons_succ, List.setIfInBounds_toArray, List.set_cons_zero, List.set_cons_succ]
    refine wpAnyH_take (i := 9) (v := ?_) rfl (by kernel_rfl) (by kernel_rfl) (by kernel_rfl) (fun _ _ _ h => h) (Or.inl ⟨by rfl, ?_⟩) (by assumption) ?_
    rotate_left
    · intro w0 hSw
      (try dsimp only at hSw)
      go_simp
      try with_reducible rfl
    simp only [Act.put, List.getElem_toArray, List.getElem_cons_zero, List.getElem_cons_succ, List.setIfInBounds_toArray, List.set_cons_zero, List.set_cons_succ]
    refine wpAnyH_take (i := 10) (v := ?_) rfl (by kernel_rfl) (by kernel_rfl) (by kernel_rfl) (fun _ _ _ h => h) (Or.inl ⟨by rfl, ?_⟩) (by assumption) ?_
    rotate_left
    · intro w0 hSw
      (try dsimp only at hSw)
      go_simp
      try with_reducible rfl
    simp only [Act.put, List.getElem_toArray, List.getElem_cons_zero, List.getElem_cons_succ, List.setIfInBounds_toArray, List.set_cons_zero, List.set_cons_succ]
    refine wpAnyH_take (i := 11) (v := ?_) rfl (by kernel_rfl) (by kernel_rfl) (by kernel_rfl) (fun _ _ _ h => h) (Or.inl ⟨by rfl, ?_⟩) (by assumption) ?_
    rotate_left
    · intro w0 hSw
      (try dsimp only at hSw)
      go_simp
      try with_reducible rfl
    simp only [Act.put, List.getElem_toArray, List.getElem_cons_zero, List.getElem_cons_succ, List.setIfInBounds_toArray, List.set_cons_zero, List.set_cons_succ]
    refine wpAnyH_ready (rs := [12]) (by kernel_rfl) (by simp) ?_
    refine AllReadyH.cons rfl (fun K hK => ?_) AllReadyH.nil
    go_simp
    go_at_call 22
    refine (coCheck_any k st se er co cl _).mono ?_
    rintro r w8 ⟨rfl, b8⟩
    rw [HE.out]
    have z8 := b8.size
    simp at z8
    have hb8c := fun o => b8.cell (p := ⟨w.heap.size, o, none⟩) (by simp; try omega)
    have hb8m := fun o => b8.cell (p := ⟨w3.heap.size, o, none⟩) (by simp; try omega)
    have hb8d := fun o => b8.cell (p := ⟨w5.heap.size, o, none⟩) (by simp; try omega)
    have V8 := conv_rd (w := w8) 22 9 Try.underlying22 Try.underlying9 ((RdB.drewN 1 R6.out).below b8)
    have U8 := conv_rd (w := w8) 22 9 Try.underlying22 Try.underlying9 ((RdB.drewN 1 Q6.out).below b8)
    go_wp2_with fail
    refine hK.out _ _ ?_ (fun hHeld => ?_)
    · try dsimp only
      go_keep
    clear hK K
    try simp only [Act.put, List.getElem_toArray, List.getElem_cons_zero, List.getElem_cons_succ, List.setIfInBounds_toArray, List.set_cons_zero, List.set_cons_succ]
    refine wpAnyH_take (i := 13) (v := ?_) rfl (by kernel_rfl) (by kernel_rfl) (by kernel_rfl) (fun _ _ _ h => h) (Or.inl ⟨by rfl, ?_⟩) (by assumption) ?_
    rotate_left
    · intro w0 hSw
      (try dsimp only at hSw)
      go_simp
      try with_reducible rfl
    simp only [Act.put, List.getElem_toArray, List.getElem_cons_zero, List.getElem_cons_succ, List.setIfInBounds_toArray, List.set_cons_zero, List.set_cons_succ]
    refine wpAnyH_take (i := 14) (v := ?_) rfl (by kernel_rfl) (by kernel_rfl) (by kernel_rfl) (fun _ _ _ h => h) (Or.inl ⟨by rfl, ?_⟩) (by assumption) ?_
    rotate_left
    · intro w0 hSw
      (try dsimp only at hSw)
      go_simp
      try with_reducible rfl
    simp only [Act.put, List.getElem_toArray, List.getElem_cons_zero, List.getElem_cons_succ, List.setIfInBounds_toArray, List.set_cons_zero, List.set_cons_succ]
    refine wpAnyH_take (i := 15) (v := ?_) rfl (by kernel_rfl) (by kernel_rfl) (by kernel_rfl) (fun _ _ _ h => h) (Or.inl ⟨by rfl, ?_⟩) (by assumption) ?_
    rotate_left
    · intro w0 hSw
      (try dsimp only at hSw)
      go_simp
      try with_reducible rfl
    simp only [Act.put, List.getElem_toArray, List.getElem_cons_zero, List.getElem_cons_succ, List.setIfInBounds_toArray, List.set_cons_zero, List.set_cons_succ]
    refine wpAnyH_take (i := 16) (v := ?_) rfl (by kernel_rfl) (by kernel_rfl) (by kernel_rfl) (fun _ _ _ h => h) (Or.inl ⟨by rfl, ?_⟩) (by assumption) ?_
    rotate_left
    · intro w0 hSw
      (try dsimp only at hSw)
      go_simp
      try with_reducible rfl
    simp only [Act.put, List.getElem_toArray, List.getElem_cons_zero, List.getElem_cons_succ, List.setIfInBounds_toArray, List.set_cons_zero, List.set_cons_succ]
    refine wpAnyH_take (i := 17) (v := ?_) rfl (by kernel_rfl) (by kernel_rfl) (by kernel_rfl) (fun _ _ _ h => h) (Or.inl ⟨by rfl, ?_⟩) (by assumption) ?_
    rotate_left
    · intro w0 hSw
      (try dsimp only at hSw)
      go_simp
      try with_reducible rfl
    simp only [Act.put, List.getElem_toArray, List.getElem_cons_zero, List.getElem_cons_succ, List.setIfInBounds_toArray, List.set_cons_zero, List.set_cons_succ]
    refine wpAnyH_take (i := 18) (v := ?_) rfl (by kernel_rfl) (by kernel_rfl) (by kernel_rfl) (fun _ _ _ h => h) (Or.inl ⟨by rfl, ?_⟩) (by assumption) ?_
    rotate_left
    · intro w0 hSw
      (try dsimp only at hSw)
      go_simp
      try with_reducible rfl
    simp only [Act.put, List.getElem_toArray, List.getElem_cons_zero, List.getElem_cons_succ, List.setIfInBounds_toArray, List.set_cons_zero, List.set_cons_succ]
    refine wpAnyH_ready (rs := [19]) (by kernel_rfl) (by simp) ?_
    refine AllReadyH.cons rfl (fun K hK => ?_) AllReadyH.nil
    go_simp
    go_at_call 23
    refine (refCoBytes_any k st se er co cl _ a1.1 a1.2 a2.1 a2.2 a3.1 a3.2 a4.1 a4.2).mono ?_
    rintro r w9 ⟨v9, rfl, o9, b9⟩
    have z9 := b9.size
    have hb9c := fun o => b9.cell (p := ⟨w.heap.size, o, none⟩) (by simp; try omega)
    have hb9m := fun o => b9.cell (p := ⟨w3.heap.size, o, none⟩) (by simp; try omega)
    have hb9d := fun o => b9.cell (p := ⟨w5.heap.size, o, none⟩) (by simp; try omega)
    have V9 := conv_rd (w := w9) 22 9 Try.underlying22 Try.underlying9 (((RdB.drewN 1 R6.out).below b8).below b9)
    have U9 := conv_rd (w := w9) 22 9 Try.underlying22 Try.underlying9 (((RdB.drewN 1 Q6.out).below b8).below b9)
    have T9 := conv_rd (w := w9) 22 9 Try.underlying22 Try.underlying9 o9.rd
    go_wp2_with fail
    refine hK.out _ _ ?_ (fun hHeld => ?_)
    · try dsimp only
      go_keep
    clear hK K
    try simp only [Act.put, List.getElem_toArray, List.getElem_cons_zero, List.getElem_cons_succ, List.setIfInBounds_toArray, List.set_cons_zero, List.set_cons_succ]
    refine wpAnyH_ready (rs := [20]) (by kernel_rfl) (by simp) ?_
    refine AllReadyH.cons rfl (fun K hK => ?_) AllReadyH.nil
    go_simp
    refine hK.out _ _ ?_ (fun hHeld => ?_)
    · try dsimp only
      go_keep
    clear hK K
    try simp only [Act.put, List.getElem_toArray, List.getElem_cons_zero, List.getElem_cons_succ, List.setIfInBounds_toArray, List.set_cons_zero, List.set_cons_succ]
    refine wpAnyH_take (i := 21) (v := ?_) rfl (by kernel_rfl) (by kernel_rfl) (by kernel_rfl) (fun _ _ _ h => h) (Or.inl ⟨by rfl, ?_⟩) (by assumption) ?_
    rotate_left
    · intro w0 hSw
      (try dsimp only at hSw)
      go_simp
      try with_reducible rfl
    simp only [Act.put, List.getElem_toArray, List.getElem_cons_zero, List.getElem_cons_succ, List.setIfInBounds_toArray, List.set_cons_zero, List.set_cons_succ]
    refine wpAnyH_take (i := 22) (v := ?_) rfl (by kernel_rfl) (by kernel_rfl) (by kernel_rfl) (fun _ _ _ h => h) (Or.inl ⟨by rfl, ?_⟩) (by assumption) ?_
    rotate_left
    · intro w0 hSw
      (try dsimp only at hSw)
      go_simp
      try with_reducible rfl
    simp only [Act.put, List.getElem_toArray, List.getElem_cons_zero, List.getElem_cons_succ, List.setIfInBounds_toArray, List.set_cons_zero, List.set_cons_succ]
    refine wpAnyH_take (i := 23) (v := ?_) rfl (by kernel_rfl) (by kernel_rfl) (by kernel_rfl) (fun _ _ _ h => h) (Or.inl ⟨by rfl, ?_⟩) (by assumption) ?_
    rotate_left
    · intro w0 hSw
      (try dsimp only at hSw)
      go_simp
      try with_reducible rfl
    simp only [Act.put, List.getElem_toArray, List.getElem_cons_zero, List.getElem_cons_succ, List.setIfInBounds_toArray, List.set_cons_zero, List.set_cons_succ]
    refine wpAnyH_take (i := 24) (v := ?_) rfl (by kernel_rfl) (by kernel_rfl) (by kernel_rfl) (fun _ _ _ h => h) (Or.inl ⟨by rfl, ?_⟩) (by assumption) ?_
    rotate_left
    · intro w0 hSw
      (try dsimp only at hSw)
      go_simp
      try with_reducible rfl
    simp only [Act.put, List.getElem_toArray, List.getElem_cons_zero, List.getElem_cons_succ, List.setIfInBounds_toArray, List.set_cons_zero, List.set_cons_succ]
    refine wpAnyH_take (i := 25) (v := ?_) rfl (by kernel_rfl) (by kernel_rfl) (by kernel_rfl) (fun _ _ _ h => h) (Or.inl ⟨by rfl, ?_⟩) (by assumption) ?_
    rotate_left
    · intro w0 hSw
      (try dsimp only at hSw)
      go_simp
      try with_reducible rfl
    simp only [Act.put, List.getElem_toArray, List.getElem_cons_zero, List.getElem_cons_succ, List.setIfInBounds_toArray, List.set_cons_zero, List.set_cons_succ]
    refine wpAnyH_take (i := 26) (v := ?_) rfl (by kernel_rfl) (by kernel_rfl) (by kernel_rfl) (fun _ _ _ h => h) (Or.inl ⟨by rfl, ?_⟩) (by assumption) ?_
    rotate_left
    · intro w0 hSw
      (try dsimp only at hSw)
      go_simp
      try with_reducible rfl
    simp only [Act.put, List.getElem_toArray, List.getElem_cons_zero, List.getElem_cons_succ, List.setIfInBounds_toArray, List.set_cons_zero, List.set_cons_succ]
    refine wpAnyH_take (i := 27) (v := ?_) rfl (by kernel_rfl) (by kernel_rfl) (by kernel_rfl) (fun _ _ _ h => h) (Or.inl ⟨by rfl, ?_⟩) (by assumption) ?_
    rotate_left
    · intro w0 hSw
      (try dsimp only at hSw)
      go_simp
      try with_reducible rfl
    simp only [Act.put, List.getElem_toArray, List.getElem_cons_zero, List.getElem_cons_succ, List.setIfInBounds_toArray, List.set_cons_zero, List.set_cons_succ]
    refine wpAnyH_take (i := 28) (v := ?_) rfl (by kernel_rfl) (by kernel_rfl) (by kernel_rfl) (fun _ _ _ h => h) (Or.inl ⟨by rfl, ?_⟩) (by assumption) ?_
    rotate_left
    · intro w0 hSw
      (try dsimp only at hSw)
      go_simp
      try with_reducible rfl
    simp only [Act.put, List.getElem_toArray, List.getElem_cons_zero, List.getElem_cons_succ, List.setIfInBounds_toArray, List.set_cons_zero, List.set_cons_succ]
    refine wpAnyH_take (i := 29) (v := ?_) rfl (by kernel_rfl) (by kernel_rfl) (by kernel_rfl) (fun _ _ _ h => h) (Or.inl ⟨by rfl, ?_⟩) (by assumption) ?_
    rotate_left
    · intro w0 hSw
      (try dsimp only at hSw)
      go_simp
      try with_reducible rfl
    simp only [Act.put, List.getElem_toArray, List.getElem_cons_zero, List.getElem_cons_succ, List.setIfInBounds_toArray, List.set_cons_zero, List.set_cons_succ]
    refine wpAnyH_take (i := 30) (v := ?_) rfl (by kernel_rfl) (by kernel_rfl) (by kernel_rfl) (fun _ _ _ h => h) (Or.inl ⟨by rfl, ?_⟩) (by assumption) ?_
    rotate_left
    · intro w0 hSw
      (try dsimp only at hSw)
      go_simp
      try with_reducible rfl
    simp only [Act.put, List.getElem_toArray, List.getElem_cons_zero, List.getElem_cons_succ, List.setIfInBounds_toArray, List.set_cons_zero, List.set_cons_succ]
    refine wpAnyH_take (i := 31) (v := ?_) rfl (by kernel_rfl) (by kernel_rfl) (by kernel_rfl) (fun _ _ _ h => h) (Or.inl ⟨by rfl, ?_⟩) (by assumption) ?_
    rotate_left
    · intro w0 hSw
      (try dsimp only at hSw)
      go_simp
      try with_reducible rfl
    simp only [Act.put, List.getElem_toArray, List.getElem_cons_zero, List.getElem_cons_succ, List.setIfInBounds_toArray, List.set_cons_zero, List.set_cons_succ]
    refine wpAnyH_take (i := 32) (v := ?_) rfl (by kernel_rfl) (by kernel_rfl) (by kernel_rfl) (fun _ _ _ h => h) (Or.inl ⟨by rfl, ?_⟩) (by assumption) ?_
    rotate_left
    · intro w0 hSw
      (try dsimp only at hSw)
      go_simp
      try with_reducible rfl
    simp only [Act.put, List.getElem_toArray, List.getElem_cons_zero, List.getElem_cons_succ, List.setIfInBounds_toArray, List.set_cons_zero, List.set_cons_succ]
    refine wpAnyH_take (i := 33) (v := ?_) rfl (by kernel_rfl) (by kernel_rfl) (by kernel_rfl) (fun _ _ _ h => h) (Or.inl ⟨by rfl, ?_⟩) (by assumption) ?_
    rotate_left
    · intro w0 hSw
      (try dsimp only at hSw)
      go_simp
      try with_reducible rfl
    simp only [Act.put, List.getElem_toArray, List.getElem_cons_zero, List.getElem_cons_succ, List.setIfInBounds_toArray, List.set_cons_zero, List.set_cons_succ]
    refine wpAnyH_take (i := 34) (v := ?_) rfl (by kernel_rfl) (by kernel_rfl) (by kernel_rfl) (fun _ _ _ h => h) (Or.inl ⟨by rfl, ?_⟩) (by assumption) ?_
    rotate_left
    · intro w0 hSw
      (try dsimp only at hSw)
      go_simp
      try with_reducible rfl
    simp only [Act.put, List.getElem_toArray, List.getElem_cons_zero, List.getElem_cons_succ, List.setIfInBounds_toArray, List.set_cons_zero, List.set_cons_succ]
    refine wpAnyH_take (i := 35) (v := ?_) rfl (by kernel_rfl) (by kernel_rfl) (by kernel_rfl) (fun _ _ _ h => h) (Or.inl ⟨by rfl, ?_⟩) (by assumption) ?_
    rotate_left
    · intro w0 hSw
      (try dsimp only at hSw)
      go_simp
      try with_reducible rfl
    simp only [Act.put, List.getElem_toArray, List.getElem_cons_zero, List.getElem_cons_succ, List.setIfInBounds_toArray, List.set_cons_zero, List.set_cons_succ]
    refine wpAnyH_take (i := 36) (v := ?_) rfl (by kernel_rfl) (by kernel_rfl) (by kernel_rfl) (fun _ _ _ h => h) (Or.inl ⟨by rfl, ?_⟩) (by assumption) ?_
    rotate_left
    · intro w0 hSw
      (try dsimp only at hSw)
      go_simp
      try with_reducible rfl
    simp only [Act.put, List.getElem_toArray, List.getElem_cons_zero, List.getElem_cons_succ, List.setIfInBounds_toArray, List.set_cons_zero, List.set_cons_succ]
    refine wpAnyH_take (i := 37) (v := ?_) rfl (by kernel_rfl) (by kernel_rfl) (by kernel_rfl) (fun _ _ _ h => h) (Or.inl ⟨by rfl, ?_⟩) (by assumption) ?_
    rotate_left
    · intro w0 hSw
      (try dsimp only at hSw)
      go_simp
      try with_reducible rfl
    simp only [Act.put, List.getElem_toArray, List.getElem_cons_zero, List.getElem_cons_succ, List.setIfInBounds_toArray, List.set_cons_zero, List.set_cons_succ]
    refine wpAnyH_take (i := 38) (v := ?_) rfl (by kernel_rfl) (by kernel_rfl) (by kernel_rfl) (fun _ _ _ h => h) (Or.inl ⟨by rfl, ?_⟩) (by assumption) ?_
    rotate_left
    · intro w0 hSw
      (try dsimp only at hSw)
      go_simp
      try with_reducible rfl
    simp only [Act.put, List.getElem_toArray, List.getElem_cons_zero, List.getElem_cons_succ, List.setIfInBounds_toArray, List.set_cons_zero, List.set_cons_succ]
    refine wpAnyH_take (i := 39) (v := ?_) rfl (by kernel_rfl) (by kernel_rfl) (by kernel_rfl) (fun _ _ _ h => h) (Or.inl ⟨by rfl, ?_⟩) (by assumption) ?_
    rotate_left
    · intro w0 hSw
      (try dsimp only at hSw)
      go_simp
      try with_reducible rfl
    simp only [Act.put, List.getElem_toArray, List.getElem_cons_zero, List.getElem_cons_succ, List.setIfInBounds_toArray, List.set_cons_zero, List.set_cons_succ]
    refine wpAnyH_take (i := 40) (v := ?_) rfl (by kernel_rfl) (by kernel_rfl) (by kernel_rfl) (fun _ _ _ h => h) (Or.inl ⟨by rfl, ?_⟩) (by assumption) ?_
    rotate_left
    · intro w0 hSw
      (try dsimp only at hSw)
      go_simp
      try with_reducible rfl
    simp only [Act.put, List.getElem_toArray, List.getElem_cons_zero, List.getElem_cons_succ, List.setIfInBounds_toArray, List.set_cons_zero, List.set_cons_succ]
    refine wpAnyH_take (i := 41) (v := ?_) rfl (by kernel_rfl) (by kernel_rfl) (by kernel_rfl) (fun _ _ _ h => h) (Or.inl ⟨by rfl, ?_⟩) (by assumption) ?_
    rotate_left
    · intro w0 hSw
      (try dsimp only at hSw)
      go_simp
      try with_reducible rfl
    simp only [Act.put, List.getElem_toArray, List.getElem_cons_zero, List.getElem_cons_succ, List.setIfInBounds_toArray, List.set_cons_zero, List.set_cons_succ]
    refine wpAnyH_take (i := 42) (v := ?_) rfl (by kernel_rfl) (by kernel_rfl) (by kernel_rfl) (fun _ _ _ h => h) (Or.inl ⟨by rfl, ?_⟩) (by assumption) ?_
    rotate_left
    · intro w0 hSw
      (try dsimp only at hSw)
      go_simp
      try with_reducible rfl
    simp only [Act.put, List.getElem_toArray, List.getElem_cons_zero, List.getElem_cons_succ, List.setIfInBounds_toArray, List.set_cons_zero, List.set_cons_succ]
    refine wpAnyH_take (i := 43) (v := ?_) rfl (by kernel_rfl) (by kernel_rfl) (by kernel_rfl) (fun _ _ _ h => h) (Or.inl ⟨by rfl, ?_⟩) (by assumption) ?_
    rotate_left
    · intro w0 hSw
      (try dsimp only at hSw)
      go_simp
      try with_reducible rfl
    simp only [Act.put, List.getElem_toArray, List.getElem_cons_zero, List.getElem_cons_succ, List.setIfInBounds_toArray, List.set_cons_zero, List.set_cons_succ]
    refine wpAnyH_done (by kernel_rfl) ?_ _
    clear hHeld
    go_wp2
    go_ret
    refine ⟨rfl, ?_⟩
    refine Below.trans ?_ (b9.mono (by omega))
    refine Below.trans ?_ (b8.mono (by simp; omega))
    exact (B5.alloc (by omega) _).drew
end Go.Proofs.Ytkbjbpaeoopkfaa
