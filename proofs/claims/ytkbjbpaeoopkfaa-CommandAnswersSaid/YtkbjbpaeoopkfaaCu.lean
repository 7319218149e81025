/- The walk of the law CommandAnswers. Conditions: the arguments are in their kinds' ranges. -/
import Derived.Test.YtkbjbpaeoopkfaaCf
import Derived.Test.YtkbjbpaeoopkfaaCr
import Derived.Deep.RegionHeld3
import Derived.Deep.DrawnRows
import Derived.Deep.RegionWith
namespace Go.Proofs.Ytkbjbpaeoopkfaa
attribute [local go_sem ↓] Go.wp_at_zero Go.wp_at_succ
set_option maxRecDepth 100000
open Go.RowKit
set_option linter.unusedVariables false
set_option linter.unusedSimpArgs false
theorem anK_is (e : Int) : (anK e == 5 || anK e == 6) = true := by
  unfold anK
  split <;> decide
theorem anOk {k st se er co cl : Int} (e : Int) (h : coOk k st se er co cl = true) : coOk (anK e) st se (anE e) co cl = true := by
  have h0 : 0 ≤ co ∧ 1 ≤ cl := by
    unfold coOk at h
    simp only [Bool.and_eq_true, decide_eq_true_eq] at h
    exact ⟨h.1.1.1.2, h.1.1.2⟩
  unfold coOk anK anE
  by_cases he : e = 0
  · simp [he, h0]
  · by_cases h1 : 0 < e ∧ e ≤ 255
    · simp [he, h1, h0]
      omega
    · simp [he, h1, h0]
set_option maxHeartbeats 2000000 in
theorem answers_walk (k st se er co cl : Int) (e : Int) (k2 st2 se2 er2 co2 cl2 : Int) (h0 : -9223372036854775808 ≤ e) (h1 : e ≤ 9223372036854775807) (w : World) :
    Calls Try.prog 4 #[.agg #[.int .i32 k, .int .i32 st, .int .i32 se, .int .i32 er, .int .i64 co, .int .i64 cl], .int .i64 e, .agg #[.int .i32 k2, .int .i32 st2, .int .i32 se2, .int .i32 er2, .int .i64 co2, .int .i64 cl2]] w fun r w' => r = .returned (.bool true) ∧ Below w.heap.size w w' := by
  go_enter Try.func4, Try.ntmps4
  go_wp2_with fail
  refine (coFixed _).mono ?_
  rintro r w1 ⟨rfl, b1⟩
  have z1 := b1.size
  simp at z1
  have z1s : w.heap.size < w1.heap.size := by omega
  have z1t : w.heap.size + 1 < w1.heap.size := by omega
  have D1 := b1.mono (B' := w.heap.size + 2) (by simp)
  obtain ⟨p0, q0⟩ := two_cells D1 0
  obtain ⟨p1, q1⟩ := two_cells D1 1
  obtain ⟨p2, q2⟩ := two_cells D1 2
  obtain ⟨p3, q3⟩ := two_cells D1 3
  obtain ⟨p4, q4⟩ := two_cells D1 4
  obtain ⟨p5, q5⟩ := two_cells D1 5
  simp only [List.getElem?_toArray, List.getElem?_cons_zero, List.getElem?_cons_succ] at p0 q0 p1 q1 p2 q2 p3 q3 p4 q4 p5 q5
  have B1 : Below w.heap.size w w1 := Below.trans (by go_grown) (b1.mono (by simp <;> omega))
  clear b1 D1
  go_wp2_with fail
  refine (coAnswer_any k st se er co cl e _).mono ?_
  rintro r w2 ⟨rfl, b2⟩
  have z2 := b2.size
  obtain ⟨c2, f2⟩ := bcell b2
  have z2s : w.heap.size < w2.heap.size := by omega
  have z2t : w.heap.size + 1 < w2.heap.size := by omega
  have B2 : Below w.heap.size w w2 := B1.trans (b2.mono (by omega))
  rw [← c2 _ _ z1s] at p0 p1 p2 p3 p4 p5
  rw [← c2 _ _ z1t] at q0 q1 q2 q3 q4 q5
  clear b2 c2 f2
  have KI := anK_is e
  have hnn : (anK e != anK e) = false := by simp
  go_wp2
  go_region_held3 (fun w' => w'.cell? ⟨w2.heap.size, 0, none⟩ = some (.int .i32 (anK e)) ∧ w'.cell? ⟨w2.heap.size, 1, none⟩ = some (.int .i32 (st)) ∧ w'.cell? ⟨w2.heap.size, 2, none⟩ = some (.int .i32 (se)) ∧ w'.cell? ⟨w2.heap.size, 3, none⟩ = some (.int .i32 (anE e)) ∧ w'.cell? ⟨w2.heap.size, 4, none⟩ = some (.int .i64 (co)) ∧ w'.cell? ⟨w2.heap.size, 5, none⟩ = some (.int .i64 (cl)) ∧ w'.cell? ⟨w.heap.size, 0, none⟩ = some (.int .i32 (k)) ∧ w'.cell? ⟨w.heap.size, 1, none⟩ = some (.int .i32 (st)) ∧ w'.cell? ⟨w.heap.size, 2, none⟩ = some (.int .i32 (se)) ∧ w'.cell? ⟨w.heap.size, 3, none⟩ = some (.int .i32 (er)) ∧ w'.cell? ⟨w.heap.size, 4, none⟩ = some (.int .i64 (co)) ∧ w'.cell? ⟨w.heap.size, 5, none⟩ = some (.int .i64 (cl)) ∧ w'.cell? ⟨w.heap.size + 1, 0, none⟩ = some (.int .i32 (k2)) ∧ w'.cell? ⟨w.heap.size + 1, 1, none⟩ = some (.int .i32 (st2)) ∧ w'.cell? ⟨w.heap.size + 1, 2, none⟩ = some (.int .i32 (se2)) ∧ w'.cell? ⟨w.heap.size + 1, 3, none⟩ = some (.int .i32 (er2)) ∧ w'.cell? ⟨w.heap.size + 1, 4, none⟩ = some (.int .i64 (co2)) ∧ w'.cell? ⟨w.heap.size + 1, 5, none⟩ = some (.int .i64 (cl2))) (go_keep)
    (first
      | (go_at_call 18; refine (refAnswer_any k st se er co cl e h0 h1 _).mono ?_; rintro r w3 ⟨rfl, b3⟩; have z3 := b3.size; simp at z3; have hc0 := fun o => b3.cell (p := ⟨w.heap.size, o, none⟩) (by simp; try omega); have hc1 := fun o => b3.cell (p := ⟨w.heap.size + 1, o, none⟩) (by simp; try omega); have hc2 := fun o => b3.cell (p := ⟨w2.heap.size, o, none⟩) (by simp; try omega))
      | (go_at_call 19; refine (coIs_any _ _ _ _ _ _ k st se er co cl _).mono ?_; rintro r w4 ⟨rfl, b4⟩; have z4 := b4.size; have hd0 := fun o => b4.cell (p := ⟨w.heap.size, o, none⟩) (by simp; try omega); have hd1 := fun o => b4.cell (p := ⟨w.heap.size + 1, o, none⟩) (by simp; try omega); have hd2 := fun o => b4.cell (p := ⟨w2.heap.size, o, none⟩) (by simp; try omega)))
  have B4 : Below w.heap.size w w4 := by
    refine Below.trans ?_ (b4.mono (by omega))
    refine Below.trans ?_ (b3.mono (by simp <;> omega))
    exact (B2.alloc (by omega) _).drew
  have FF : Hid ((w4.cell? ⟨w.heap.size, 0, none⟩ = some (.int .i32 (k)) ∧ w4.cell? ⟨w.heap.size, 1, none⟩ = some (.int .i32 (st)) ∧ w4.cell? ⟨w.heap.size, 2, none⟩ = some (.int .i32 (se)) ∧ w4.cell? ⟨w.heap.size, 3, none⟩ = some (.int .i32 (er)) ∧ w4.cell? ⟨w.heap.size, 4, none⟩ = some (.int .i64 (co)) ∧ w4.cell? ⟨w.heap.size, 5, none⟩ = some (.int .i64 (cl)) ∧ w4.cell? ⟨w.heap.size + 1, 0, none⟩ = some (.int .i32 (k2)) ∧ w4.cell? ⟨w.heap.size + 1, 1, none⟩ = some (.int .i32 (st2)) ∧ w4.cell? ⟨w.heap.size + 1, 2, none⟩ = some (.int .i32 (se2)) ∧ w4.cell? ⟨w.heap.size + 1, 3, none⟩ = some (.int .i32 (er2)) ∧ w4.cell? ⟨w.heap.size + 1, 4, none⟩ = some (.int .i64 (co2)) ∧ w4.cell? ⟨w.heap.size + 1, 5, none⟩ = some (.int .i64 (cl2)) ∧ w4.cell? ⟨w2.heap.size, 0, none⟩ = some (.int .i32 (anK e)) ∧ w4.cell? ⟨w2.heap.size, 1, none⟩ = some (.int .i32 (st)) ∧ w4.cell? ⟨w2.heap.size, 2, none⟩ = some (.int .i32 (se)) ∧ w4.cell? ⟨w2.heap.size, 3, none⟩ = some (.int .i32 (anE e)) ∧ w4.cell? ⟨w2.heap.size, 4, none⟩ = some (.int .i64 (co)) ∧ w4.cell? ⟨w2.heap.size, 5, none⟩ = some (.int .i64 (cl)))) := by
    unfold Hid
    refine ⟨?_, ?_, ?_, ?_, ?_, ?_, ?_, ?_, ?_, ?_, ?_, ?_, ?_, ?_, ?_, ?_, ?_, ?_⟩
    all_goals first | (rw [hd0, hc0]; go_simp; done) | (rw [hd1, hc1]; go_simp; done) | (rw [hd2, hc2]; go_simp; done)
  have z4s : w.heap.size < w4.heap.size := by omega
  have z4t : w.heap.size + 1 < w4.heap.size := by omega
  have z4a : w2.heap.size < w4.heap.size := by omega
  clear hc0 hc1 hc2 hd0 hd1 hd2 p0 p1 p2 p3 p4 p5 q0 q1 q2 q3 q4 q5 b3 b4 B2 B1 z2s z2t z1s z1t
  obtain ⟨m0, m1, m2, m3, m4, m5, n0, n1, n2, n3, n4, n5, r0, r1, r2, r3, r4, r5⟩ := FF.out
  clear FF
  clear n1 n2 n3 h0 h1 hnn KI
  go_wp2
  have HR : Hid (coOk k st se er co cl = true → coOk (anK e) st se (anE e) co cl = true) := anOk e
  -- CASES
  -- CASES
  -- CASES
  -- CASES
  -- CASES
  -- CASES
  rcases h5 : (k2 == 5) with _ | _
  · rcases h6 : (k2 == 6) with _ | _
    · refine wp_region_held_drew (S := (fun w' => w'.cell? ⟨w.heap.size, 0, none⟩ = some (.int .i32 (k)) ∧ w'.cell? ⟨w.heap.size, 1, none⟩ = some (.int .i32 (st)) ∧ w'.cell? ⟨w.heap.size, 2, none⟩ = some (.int .i32 (se)) ∧ w'.cell? ⟨w.heap.size, 3, none⟩ = some (.int .i32 (er)) ∧ w'.cell? ⟨w.heap.size, 4, none⟩ = some (.int .i64 (co)) ∧ w'.cell? ⟨w.heap.size, 5, none⟩ = some (.int .i64 (cl)) ∧ w'.cell? ⟨w.heap.size + 1, 0, none⟩ = some (.int .i32 (k2)) ∧ w'.cell? ⟨w.heap.size + 1, 1, none⟩ = some (.int .i32 (st2)) ∧ w'.cell? ⟨w.heap.size + 1, 2, none⟩ = some (.int .i32 (se2)) ∧ w'.cell? ⟨w.heap.size + 1, 3, none⟩ = some (.int .i32 (er2)) ∧ w'.cell? ⟨w.heap.size + 1, 4, none⟩ = some (.int .i64 (co2)) ∧ w'.cell? ⟨w.heap.size + 1, 5, none⟩ = some (.int .i64 (cl2)) ∧ w'.cell? ⟨w2.heap.size, 0, none⟩ = some (.int .i32 (anK e)) ∧ w'.cell? ⟨w2.heap.size, 1, none⟩ = some (.int .i32 (st)) ∧ w'.cell? ⟨w2.heap.size, 2, none⟩ = some (.int .i32 (se)) ∧ w'.cell? ⟨w2.heap.size, 3, none⟩ = some (.int .i32 (anE e)) ∧ w'.cell? ⟨w2.heap.size, 4, none⟩ = some (.int .i64 (co)) ∧ w'.cell? ⟨w2.heap.size, 5, none⟩ = some (.int .i64 (cl)))) (by kernel_rfl) ?_ (fun hHeld => ?_)
      · try dsimp only
        go_keep
      refine wpAnyH_take (i := 0) (v := ?_) rfl (by kernel_rfl) (by kernel_rfl) (by kernel_rfl) (fun _ _ _ h => h) (Or.inl ⟨by rfl, ?_⟩) (by assumption) ?_
      rotate_left
      · intro w0 hSw
        (try dsimp only at hSw)
        go_simp
        try with_reducible rfl
      simp only [Act.put, List.getElem_toArray, List.getElem_cons_zero, List.getElem_cons_succ, List.setIfInBounds_toArray, List.set_cons_zero, List.set_cons_succ]
      refine wpAnyH_take (i := 1) (v := ?_) rfl (by kernel_rfl) (by kernel_rfl) (by kernel_rfl) (fun _ _ _ h => h) (Or.inl ⟨by rfl, ?_⟩) (by assumption) ?_
      rotate_left
      · intro w0 hSw
        (try dsimp only at hSw)
        go_simp
        try with_reducible rfl
      simp only [Act.put, List.getElem_toArray, List.getElem_cons_zero, List.getElem_cons_succ, List.setIfInBounds_toArray, List.set_cons_zero, List.set_cons_succ]
      refine wpAnyH_take (i := 3) (v := ?_) rfl (by kernel_rfl) (by kernel_rfl) (by kernel_rfl) (fun _ _ _ h => h) (Or.inl ⟨by rfl, ?_⟩) (by assumption) ?_
      rotate_left
      · intro w0 hSw
        (try dsimp only at hSw)
        go_simp
        try with_reducible rfl
      simp only [Act.put, List.getElem_toArray, List.getElem_cons_zero, List.getElem_cons_succ, List.setIfInBounds_toArray, List.set_cons_zero, List.set_cons_succ]
      refine wpAnyH_take (i := 4) (v := ?_) rfl (by kernel_rfl) (by kernel_rfl) (by kernel_rfl) (fun _ _ _ h => h) (Or.inl ⟨by rfl, ?_⟩) (by assumption) ?_
      rotate_left
      · intro w0 hSw
        (try dsimp only at hSw)
        go_simp
        try with_reducible rfl
      simp only [Act.put, List.getElem_toArray, List.getElem_cons_zero, List.getElem_cons_succ, List.setIfInBounds_toArray, List.set_cons_zero, List.set_cons_succ]
      refine wpAnyH_take (i := 5) (v := ?_) rfl (by kernel_rfl) (by kernel_rfl) (by kernel_rfl) (fun _ _ _ h => h) (Or.inl ⟨by rfl, ?_⟩) (by assumption) ?_
      rotate_left
      · intro w0 hSw
        (try dsimp only at hSw)
        go_simp
        try with_reducible rfl
      simp only [Act.put, List.getElem_toArray, List.getElem_cons_zero, List.getElem_cons_succ, List.setIfInBounds_toArray, List.set_cons_zero, List.set_cons_succ]
      refine wpAnyH_ready (rs := [2]) (by kernel_rfl) (by simp) ?_
      refine AllReadyH.cons rfl (fun K hK => ?_) AllReadyH.nil
      go_simp
      go_at_call 19
      refine (coIs_any k2 st2 se2 er2 co2 cl2 k st se er co cl _).mono ?_
      rintro r w5 ⟨rfl, b5⟩
      have z5 := b5.size
      have hd0 := fun o => b5.cell (p := ⟨w.heap.size, o, none⟩) (by simp; try omega)
      have hd1 := fun o => b5.cell (p := ⟨w.heap.size + 1, o, none⟩) (by simp; try omega)
      have hd2 := fun o => b5.cell (p := ⟨w2.heap.size, o, none⟩) (by simp; try omega)
      go_wp2_with fail
      refine hK.out _ _ ?_ (fun hHeld => ?_)
      · try dsimp only
        go_keep
      clear hK K
      try simp only [Act.put, List.getElem_toArray, List.getElem_cons_zero, List.getElem_cons_succ, List.setIfInBounds_toArray, List.set_cons_zero, List.set_cons_succ]
      refine wpAnyH_take (i := 6) (v := ?_) rfl (by kernel_rfl) (by kernel_rfl) (by kernel_rfl) (fun _ _ _ h => h) (Or.inl ⟨by rfl, ?_⟩) (by assumption) ?_
      rotate_left
      · intro w0 hSw
        (try dsimp only at hSw)
        go_simp
        try with_reducible rfl
      simp only [Act.put, List.getElem_toArray, List.getElem_cons_zero, List.getElem_cons_succ, List.setIfInBounds_toArray, List.set_cons_zero, List.set_cons_succ]
      refine wpAnyH_take (i := 7) (v := ?_) rfl (by kernel_rfl) (by kernel_rfl) (by kernel_rfl) (fun _ _ _ h => h) (Or.inl ⟨by rfl, ?_⟩) (by assumption) ?_
      rotate_left
      · intro w0 hSw
        (try dsimp only at hSw)
        go_simp
        try with_reducible rfl
      simp only [Act.put, List.getElem_toArray, List.getElem_cons_zero, List.getElem_cons_succ, List.setIfInBounds_toArray, List.set_cons_zero, List.set_cons_succ]
      refine wpAnyH_take (i := 8) (v := ?_) rfl (by kernel_rfl) (by kernel_rfl) (by kernel_rfl) (fun _ _ _ h => h) (Or.inl ⟨by rfl, ?_⟩) (by assumption) ?_
      rotate_left
      · intro w0 hSw
        (try dsimp only at hSw)
        go_simp
        try with_reducible rfl
      simp only [Act.put, List.getElem_toArray, List.getElem_cons_zero, List.getElem_cons_succ, List.setIfInBounds_toArray, List.set_cons_zero, List.set_cons_succ]
      refine wpAnyH_take (i := 9) (v := ?_) rfl (by kernel_rfl) (by kernel_rfl) (by kernel_rfl) (fun _ _ _ h => h) (Or.inl ⟨by rfl, ?_⟩) (by assumption) ?_
      rotate_left
      · intro w0 hSw
        (try dsimp only at hSw)
        go_simp
        try with_reducible rfl
      simp only [Act.put, List.getElem_toArray, List.getElem_cons_zero, List.getElem_cons_succ, List.setIfInBounds_toArray, List.set_cons_zero, List.set_cons_succ]
      refine wpAnyH_take (i := 10) (v := ?_) rfl (by kernel_rfl) (by kernel_rfl) (by kernel_rfl) (fun _ _ _ h => h) (Or.inl ⟨by rfl, ?_⟩) (by assumption) ?_
      rotate_left
      · intro w0 hSw
        (try dsimp only at hSw)
        go_simp
        try with_reducible rfl
      simp only [Act.put, List.getElem_toArray, List.getElem_cons_zero, List.getElem_cons_succ, List.setIfInBounds_toArray, List.set_cons_zero, List.set_cons_succ]
      refine wpAnyH_take (i := 11) (v := ?_) rfl (by kernel_rfl) (by kernel_rfl) (by kernel_rfl) (fun _ _ _ h => h) (Or.inl ⟨by rfl, ?_⟩) (by assumption) ?_
      rotate_left
      · intro w0 hSw
        (try dsimp only at hSw)
        go_simp
        try with_reducible rfl
      simp only [Act.put, List.getElem_toArray, List.getElem_cons_zero, List.getElem_cons_succ, List.setIfInBounds_toArray, List.set_cons_zero, List.set_cons_succ]
      refine wpAnyH_take (i := 12) (v := undef) rfl (by kernel_rfl) (by kernel_rfl) (by kernel_rfl) (fun _ _ _ h => h) (Or.inr ⟨by rfl, rfl⟩) (by assumption) ?_
      simp only [Act.put, List.getElem_toArray, List.getElem_cons_zero, List.getElem_cons_succ, List.setIfInBounds_toArray, List.set_cons_zero, List.set_cons_succ]
      refine wpAnyH_take (i := 13) (v := undef) rfl (by kernel_rfl) (by kernel_rfl) (by kernel_rfl) (fun _ _ _ h => h) (Or.inr ⟨by rfl, rfl⟩) (by assumption) ?_
      simp only [Act.put, List.getElem_toArray, List.getElem_cons_zero, List.getElem_cons_succ, List.setIfInBounds_toArray, List.set_cons_zero, List.set_cons_succ]
      refine wpAnyH_take (i := 14) (v := undef) rfl (by kernel_rfl) (by kernel_rfl) (by kernel_rfl) (fun _ _ _ h => h) (Or.inr ⟨by rfl, rfl⟩) (by assumption) ?_
      simp only [Act.put, List.getElem_toArray, List.getElem_cons_zero, List.getElem_cons_succ, List.setIfInBounds_toArray, List.set_cons_zero, List.set_cons_succ]
      refine wpAnyH_take (i := 15) (v := undef) rfl (by kernel_rfl) (by kernel_rfl) (by kernel_rfl) (fun _ _ _ h => h) (Or.inr ⟨by rfl, rfl⟩) (by assumption) ?_
      simp only [Act.put, List.getElem_toArray, List.getElem_cons_zero, List.getElem_cons_succ, List.setIfInBounds_toArray, List.set_cons_zero, List.set_cons_succ]
      refine wpAnyH_take (i := 16) (v := undef) rfl (by kernel_rfl) (by kernel_rfl) (by kernel_rfl) (fun _ _ _ h => h) (Or.inr ⟨by rfl, rfl⟩) (by assumption) ?_
      simp only [Act.put, List.getElem_toArray, List.getElem_cons_zero, List.getElem_cons_succ, List.setIfInBounds_toArray, List.set_cons_zero, List.set_cons_succ]
      refine wpAnyH_take (i := 17) (v := ?_) rfl (by kernel_rfl) (by kernel_rfl) (by kernel_rfl) (fun _ _ _ h => h) (Or.inl ⟨by rfl, ?_⟩) (by assumption) ?_
      rotate_left
      · intro w0 hSw
        (try dsimp only at hSw)
        go_simp
        try with_reducible rfl
      simp only [Act.put, List.getElem_toArray, List.getElem_cons_zero, List.getElem_cons_succ, List.setIfInBounds_toArray, List.set_cons_zero, List.set_cons_succ]
      refine wpAnyH_take (i := 18) (v := ?_) rfl (by kernel_rfl) (by kernel_rfl) (by kernel_rfl) (fun _ _ _ h => h) (Or.inl ⟨by rfl, ?_⟩) (by assumption) ?_
      rotate_left
      · intro w0 hSw
        (try dsimp only at hSw)
        go_simp
        try with_reducible rfl
      simp only [Act.put, List.getElem_toArray, List.getElem_cons_zero, List.getElem_cons_succ, List.setIfInBounds_toArray, List.set_cons_zero, List.set_cons_succ]
      refine wpAnyH_take (i := 19) (v := undef) rfl (by kernel_rfl) (by kernel_rfl) (by kernel_rfl) (fun _ _ _ h => h) (Or.inr ⟨by rfl, rfl⟩) (by assumption) ?_
      simp only [Act.put, List.getElem_toArray, List.getElem_cons_zero, List.getElem_cons_succ, List.setIfInBounds_toArray, List.set_cons_zero, List.set_cons_succ]
      refine wpAnyH_take (i := 20) (v := undef) rfl (by kernel_rfl) (by kernel_rfl) (by kernel_rfl) (fun _ _ _ h => h) (Or.inr ⟨by rfl, rfl⟩) (by assumption) ?_
      simp only [Act.put, List.getElem_toArray, List.getElem_cons_zero, List.getElem_cons_succ, List.setIfInBounds_toArray, List.set_cons_zero, List.set_cons_succ]
      refine wpAnyH_take (i := 21) (v := undef) rfl (by kernel_rfl) (by kernel_rfl) (by kernel_rfl) (fun _ _ _ h => h) (Or.inr ⟨by rfl, rfl⟩) (by assumption) ?_
      simp only [Act.put, List.getElem_toArray, List.getElem_cons_zero, List.getElem_cons_succ, List.setIfInBounds_toArray, List.set_cons_zero, List.set_cons_succ]
      refine wpAnyH_take (i := 22) (v := undef) rfl (by kernel_rfl) (by kernel_rfl) (by kernel_rfl) (fun _ _ _ h => h) (Or.inr ⟨by rfl, rfl⟩) (by assumption) ?_
      simp only [Act.put, List.getElem_toArray, List.getElem_cons_zero, List.getElem_cons_succ, List.setIfInBounds_toArray, List.set_cons_zero, List.set_cons_succ]
      refine wpAnyH_take (i := 23) (v := undef) rfl (by kernel_rfl) (by kernel_rfl) (by kernel_rfl) (fun _ _ _ h => h) (Or.inr ⟨by rfl, rfl⟩) (by assumption) ?_
      simp only [Act.put, List.getElem_toArray, List.getElem_cons_zero, List.getElem_cons_succ, List.setIfInBounds_toArray, List.set_cons_zero, List.set_cons_succ]
      refine wpAnyH_take (i := 24) (v := ?_) rfl (by kernel_rfl) (by kernel_rfl) (by kernel_rfl) (fun _ _ _ h => h) (Or.inl ⟨by rfl, ?_⟩) (by assumption) ?_
      rotate_left
      · intro w0 hSw
        (try dsimp only at hSw)
        go_simp
        try with_reducible rfl
      simp only [Act.put, List.getElem_toArray, List.getElem_cons_zero, List.getElem_cons_succ, List.setIfInBounds_toArray, List.set_cons_zero, List.set_cons_succ]
      refine wpAnyH_take (i := 25) (v := ?_) rfl (by kernel_rfl) (by kernel_rfl) (by kernel_rfl) (fun _ _ _ h => h) (Or.inl ⟨by rfl, ?_⟩) (by assumption) ?_
      rotate_left
      · intro w0 hSw
        (try dsimp only at hSw)
        go_simp
        try with_reducible rfl
      simp only [Act.put, List.getElem_toArray, List.getElem_cons_zero, List.getElem_cons_succ, List.setIfInBounds_toArray, List.set_cons_zero, List.set_cons_succ]
      refine wpAnyH_done (by kernel_rfl) ?_ _
      have B5 : Below w.heap.size w w5 := (Below.drew B4).trans (b5.mono (by have := B4.size; simpa using this))
      clear hHeld
      have z5s : w.heap.size < w5.heap.size := by simp at z5; omega
      have z5a : w2.heap.size < w5.heap.size := by simp at z5; omega
      rcases ho : coOk k st se er co cl with _ | _
      · go_wp2_with fail
        refine (refRight_any k st se er co cl _).mono ?_
        rintro r w6 ⟨rfl, b6⟩
        have B6 : Below w.heap.size w w6 := B5.trans (b6.mono (by omega))
        rw [ho]
        go_wp2
        go_ret
        exact ⟨rfl, B6⟩
      · have ho2 := HR.out ho
        go_wp2_with fail
        refine (refRight_any k st se er co cl _).mono ?_
        rintro r w6 ⟨rfl, b6⟩
        have z6 := b6.size
        have B6 : Below w.heap.size w w6 := B5.trans (b6.mono (by omega))
        have he2 := fun o => b6.cell (p := ⟨w2.heap.size, o, none⟩) (by simp; try omega)
        rw [ho]
        go_wp2_with fail
        refine (refRight_any (anK e) st se (anE e) co cl _).mono ?_
        rintro r w7 ⟨rfl, b7⟩
        have B7 : Below w.heap.size w w7 := B6.trans (b7.mono (by omega))
        rw [ho2]
        go_wp2
        go_ret
        exact ⟨rfl, B7⟩
    · rcases h7 : (co2 == co) with _ | _
      · refine wp_region_held_drew (S := (fun w' => w'.cell? ⟨w.heap.size, 0, none⟩ = some (.int .i32 (k)) ∧ w'.cell? ⟨w.heap.size, 1, none⟩ = some (.int .i32 (st)) ∧ w'.cell? ⟨w.heap.size, 2, none⟩ = some (.int .i32 (se)) ∧ w'.cell? ⟨w.heap.size, 3, none⟩ = some (.int .i32 (er)) ∧ w'.cell? ⟨w.heap.size, 4, none⟩ = some (.int .i64 (co)) ∧ w'.cell? ⟨w.heap.size, 5, none⟩ = some (.int .i64 (cl)) ∧ w'.cell? ⟨w.heap.size + 1, 0, none⟩ = some (.int .i32 (k2)) ∧ w'.cell? ⟨w.heap.size + 1, 1, none⟩ = some (.int .i32 (st2)) ∧ w'.cell? ⟨w.heap.size + 1, 2, none⟩ = some (.int .i32 (se2)) ∧ w'.cell? ⟨w.heap.size + 1, 3, none⟩ = some (.int .i32 (er2)) ∧ w'.cell? ⟨w.heap.size + 1, 4, none⟩ = some (.int .i64 (co2)) ∧ w'.cell? ⟨w.heap.size + 1, 5, none⟩ = some (.int .i64 (cl2)) ∧ w'.cell? ⟨w2.heap.size, 0, none⟩ = some (.int .i32 (anK e)) ∧ w'.cell? ⟨w2.heap.size, 1, none⟩ = some (.int .i32 (st)) ∧ w'.cell? ⟨w2.heap.size, 2, none⟩ = some (.int .i32 (se)) ∧ w'.cell? ⟨w2.heap.size, 3, none⟩ = some (.int .i32 (anE e)) ∧ w'.cell? ⟨w2.heap.size, 4, none⟩ = some (.int .i64 (co)) ∧ w'.cell? ⟨w2.heap.size, 5, none⟩ = some (.int .i64 (cl)))) (by kernel_rfl) ?_ (fun hHeld => ?_)
        · try dsimp only
          go_keep
        refine wpAnyH_take (i := 0) (v := ?_) rfl (by kernel_rfl) (by kernel_rfl) (by kernel_rfl) (fun _ _ _ h => h) (Or.inl ⟨by rfl, ?_⟩) (by assumption) ?_
        rotate_left
        · intro w0 hSw
          (try dsimp only at hSw)
          go_simp
          try with_reducible rfl
        simp only [Act.put, List.getElem_toArray, List.getElem_cons_zero, List.getElem_cons_succ, List.setIfInBounds_toArray, List.set_cons_zero, List.set_cons_succ]
        refine wpAnyH_take (i := 1) (v := ?_) rfl (by kernel_rfl) (by kernel_rfl) (by kernel_rfl) (fun _ _ _ h => h) (Or.inl ⟨by rfl, ?_⟩) (by assumption) ?_
        rotate_left
        · intro w0 hSw
          (try dsimp only at hSw)
          go_simp
          try with_reducible rfl
        simp only [Act.put, List.getElem_toArray, List.getElem_cons_zero, List.getElem_cons_succ, List.setIfInBounds_toArray, List.set_cons_zero, List.set_cons_succ]
        refine wpAnyH_take (i := 3) (v := ?_) rfl (by kernel_rfl) (by kernel_rfl) (by kernel_rfl) (fun _ _ _ h => h) (Or.inl ⟨by rfl, ?_⟩) (by assumption) ?_
        rotate_left
        · intro w0 hSw
          (try dsimp only at hSw)
          go_simp
          try with_reducible rfl
        simp only [Act.put, List.getElem_toArray, List.getElem_cons_zero, List.getElem_cons_succ, List.setIfInBounds_toArray, List.set_cons_zero, List.set_cons_succ]
        refine wpAnyH_take (i := 4) (v := ?_) rfl (by kernel_rfl) (by kernel_rfl) (by kernel_rfl) (fun _ _ _ h => h) (Or.inl ⟨by rfl, ?_⟩) (by assumption) ?_
        rotate_left
        · intro w0 hSw
          (try dsimp only at hSw)
          go_simp
          try with_reducible rfl
        simp only [Act.put, List.getElem_toArray, List.getElem_cons_zero, List.getElem_cons_succ, List.setIfInBounds_toArray, List.set_cons_zero, List.set_cons_succ]
        refine wpAnyH_take (i := 5) (v := ?_) rfl (by kernel_rfl) (by kernel_rfl) (by kernel_rfl) (fun _ _ _ h => h) (Or.inl ⟨by rfl, ?_⟩) (by assumption) ?_
        rotate_left
        · intro w0 hSw
          (try dsimp only at hSw)
          go_simp
          try with_reducible rfl
        simp only [Act.put, List.getElem_toArray, List.getElem_cons_zero, List.getElem_cons_succ, List.setIfInBounds_toArray, List.set_cons_zero, List.set_cons_succ]
        refine wpAnyH_ready (rs := [2]) (by kernel_rfl) (by simp) ?_
        refine AllReadyH.cons rfl (fun K hK => ?_) AllReadyH.nil
        go_simp
        go_at_call 19
        refine (coIs_any k2 st2 se2 er2 co2 cl2 k st se er co cl _).mono ?_
        rintro r w5 ⟨rfl, b5⟩
        have z5 := b5.size
        have hd0 := fun o => b5.cell (p := ⟨w.heap.size, o, none⟩) (by simp; try omega)
        have hd1 := fun o => b5.cell (p := ⟨w.heap.size + 1, o, none⟩) (by simp; try omega)
        have hd2 := fun o => b5.cell (p := ⟨w2.heap.size, o, none⟩) (by simp; try omega)
        go_wp2_with fail
        refine hK.out _ _ ?_ (fun hHeld => ?_)
        · try dsimp only
          go_keep
        clear hK K
        try simp only [Act.put, List.getElem_toArray, List.getElem_cons_zero, List.getElem_cons_succ, List.setIfInBounds_toArray, List.set_cons_zero, List.set_cons_succ]
        refine wpAnyH_take (i := 6) (v := ?_) rfl (by kernel_rfl) (by kernel_rfl) (by kernel_rfl) (fun _ _ _ h => h) (Or.inl ⟨by rfl, ?_⟩) (by assumption) ?_
        rotate_left
        · intro w0 hSw
          (try dsimp only at hSw)
          go_simp
          try with_reducible rfl
        simp only [Act.put, List.getElem_toArray, List.getElem_cons_zero, List.getElem_cons_succ, List.setIfInBounds_toArray, List.set_cons_zero, List.set_cons_succ]
        refine wpAnyH_take (i := 7) (v := ?_) rfl (by kernel_rfl) (by kernel_rfl) (by kernel_rfl) (fun _ _ _ h => h) (Or.inl ⟨by rfl, ?_⟩) (by assumption) ?_
        rotate_left
        · intro w0 hSw
          (try dsimp only at hSw)
          go_simp
          try with_reducible rfl
        simp only [Act.put, List.getElem_toArray, List.getElem_cons_zero, List.getElem_cons_succ, List.setIfInBounds_toArray, List.set_cons_zero, List.set_cons_succ]
        refine wpAnyH_take (i := 8) (v := ?_) rfl (by kernel_rfl) (by kernel_rfl) (by kernel_rfl) (fun _ _ _ h => h) (Or.inl ⟨by rfl, ?_⟩) (by assumption) ?_
        rotate_left
        · intro w0 hSw
          (try dsimp only at hSw)
          go_simp
          try with_reducible rfl
        simp only [Act.put, List.getElem_toArray, List.getElem_cons_zero, List.getElem_cons_succ, List.setIfInBounds_toArray, List.set_cons_zero, List.set_cons_succ]
        refine wpAnyH_take (i := 9) (v := ?_) rfl (by kernel_rfl) (by kernel_rfl) (by kernel_rfl) (fun _ _ _ h => h) (Or.inl ⟨by rfl, ?_⟩) (by assumption) ?_
        rotate_left
        · intro w0 hSw
          (try dsimp only at hSw)
          go_simp
          try with_reducible rfl
        simp only [Act.put, List.getElem_toArray, List.getElem_cons_zero, List.getElem_cons_succ, List.setIfInBounds_toArray, List.set_cons_zero, List.set_cons_succ]
        refine wpAnyH_take (i := 10) (v := ?_) rfl (by kernel_rfl) (by kernel_rfl) (by kernel_rfl) (fun _ _ _ h => h) (Or.inl ⟨by rfl, ?_⟩) (by assumption) ?_
        rotate_left
        · intro w0 hSw
          (try dsimp only at hSw)
          go_simp
          try with_reducible rfl
        simp only [Act.put, List.getElem_toArray, List.getElem_cons_zero, List.getElem_cons_succ, List.setIfInBounds_toArray, List.set_cons_zero, List.set_cons_succ]
        refine wpAnyH_take (i := 11) (v := ?_) rfl (by kernel_rfl) (by kernel_rfl) (by kernel_rfl) (fun _ _ _ h => h) (Or.inl ⟨by rfl, ?_⟩) (by assumption) ?_
        rotate_left
        · intro w0 hSw
          (try dsimp only at hSw)
          go_simp
          try with_reducible rfl
        simp only [Act.put, List.getElem_toArray, List.getElem_cons_zero, List.getElem_cons_succ, List.setIfInBounds_toArray, List.set_cons_zero, List.set_cons_succ]
        refine wpAnyH_take (i := 12) (v := ?_) rfl (by kernel_rfl) (by kernel_rfl) (by kernel_rfl) (fun _ _ _ h => h) (Or.inl ⟨by rfl, ?_⟩) (by assumption) ?_
        rotate_left
        · intro w0 hSw
          (try dsimp only at hSw)
          go_simp
          try with_reducible rfl
        simp only [Act.put, List.getElem_toArray, List.getElem_cons_zero, List.getElem_cons_succ, List.setIfInBounds_toArray, List.set_cons_zero, List.set_cons_succ]
        refine wpAnyH_take (i := 13) (v := ?_) rfl (by kernel_rfl) (by kernel_rfl) (by kernel_rfl) (fun _ _ _ h => h) (Or.inl ⟨by rfl, ?_⟩) (by assumption) ?_
        rotate_left
        · intro w0 hSw
          (try dsimp only at hSw)
          go_simp
          try with_reducible rfl
        simp only [Act.put, List.getElem_toArray, List.getElem_cons_zero, List.getElem_cons_succ, List.setIfInBounds_toArray, List.set_cons_zero, List.set_cons_succ]
        refine wpAnyH_take (i := 14) (v := ?_) rfl (by kernel_rfl) (by kernel_rfl) (by kernel_rfl) (fun _ _ _ h => h) (Or.inl ⟨by rfl, ?_⟩) (by assumption) ?_
        rotate_left
        · intro w0 hSw
          (try dsimp only at hSw)
          go_simp
          try with_reducible rfl
        simp only [Act.put, List.getElem_toArray, List.getElem_cons_zero, List.getElem_cons_succ, List.setIfInBounds_toArray, List.set_cons_zero, List.set_cons_succ]
        refine wpAnyH_take (i := 15) (v := ?_) rfl (by kernel_rfl) (by kernel_rfl) (by kernel_rfl) (fun _ _ _ h => h) (Or.inl ⟨by rfl, ?_⟩) (by assumption) ?_
        rotate_left
        · intro w0 hSw
          (try dsimp only at hSw)
          go_simp
          try with_reducible rfl
        simp only [Act.put, List.getElem_toArray, List.getElem_cons_zero, List.getElem_cons_succ, List.setIfInBounds_toArray, List.set_cons_zero, List.set_cons_succ]
        refine wpAnyH_take (i := 16) (v := ?_) rfl (by kernel_rfl) (by kernel_rfl) (by kernel_rfl) (fun _ _ _ h => h) (Or.inl ⟨by rfl, ?_⟩) (by assumption) ?_
        rotate_left
        · intro w0 hSw
          (try dsimp only at hSw)
          go_simp
          try with_reducible rfl
        simp only [Act.put, List.getElem_toArray, List.getElem_cons_zero, List.getElem_cons_succ, List.setIfInBounds_toArray, List.set_cons_zero, List.set_cons_succ]
        refine wpAnyH_take (i := 17) (v := ?_) rfl (by kernel_rfl) (by kernel_rfl) (by kernel_rfl) (fun _ _ _ h => h) (Or.inl ⟨by rfl, ?_⟩) (by assumption) ?_
        rotate_left
        · intro w0 hSw
          (try dsimp only at hSw)
          go_simp
          try with_reducible rfl
        simp only [Act.put, List.getElem_toArray, List.getElem_cons_zero, List.getElem_cons_succ, List.setIfInBounds_toArray, List.set_cons_zero, List.set_cons_succ]
        refine wpAnyH_take (i := 18) (v := ?_) rfl (by kernel_rfl) (by kernel_rfl) (by kernel_rfl) (fun _ _ _ h => h) (Or.inl ⟨by rfl, ?_⟩) (by assumption) ?_
        rotate_left
        · intro w0 hSw
          (try dsimp only at hSw)
          go_simp
          try with_reducible rfl
        simp only [Act.put, List.getElem_toArray, List.getElem_cons_zero, List.getElem_cons_succ, List.setIfInBounds_toArray, List.set_cons_zero, List.set_cons_succ]
        refine wpAnyH_take (i := 19) (v := undef) rfl (by kernel_rfl) (by kernel_rfl) (by kernel_rfl) (fun _ _ _ h => h) (Or.inr ⟨by rfl, rfl⟩) (by assumption) ?_
        simp only [Act.put, List.getElem_toArray, List.getElem_cons_zero, List.getElem_cons_succ, List.setIfInBounds_toArray, List.set_cons_zero, List.set_cons_succ]
        refine wpAnyH_take (i := 20) (v := undef) rfl (by kernel_rfl) (by kernel_rfl) (by kernel_rfl) (fun _ _ _ h => h) (Or.inr ⟨by rfl, rfl⟩) (by assumption) ?_
        simp only [Act.put, List.getElem_toArray, List.getElem_cons_zero, List.getElem_cons_succ, List.setIfInBounds_toArray, List.set_cons_zero, List.set_cons_succ]
        refine wpAnyH_take (i := 21) (v := undef) rfl (by kernel_rfl) (by kernel_rfl) (by kernel_rfl) (fun _ _ _ h => h) (Or.inr ⟨by rfl, rfl⟩) (by assumption) ?_
        simp only [Act.put, List.getElem_toArray, List.getElem_cons_zero, List.getElem_cons_succ, List.setIfInBounds_toArray, List.set_cons_zero, List.set_cons_succ]
        refine wpAnyH_take (i := 22) (v := undef) rfl (by kernel_rfl) (by kernel_rfl) (by kernel_rfl) (fun _ _ _ h => h) (Or.inr ⟨by rfl, rfl⟩) (by assumption) ?_
        simp only [Act.put, List.getElem_toArray, List.getElem_cons_zero, List.getElem_cons_succ, List.setIfInBounds_toArray, List.set_cons_zero, List.set_cons_succ]
        refine wpAnyH_take (i := 23) (v := undef) rfl (by kernel_rfl) (by kernel_rfl) (by kernel_rfl) (fun _ _ _ h => h) (Or.inr ⟨by rfl, rfl⟩) (by assumption) ?_
        simp only [Act.put, List.getElem_toArray, List.getElem_cons_zero, List.getElem_cons_succ, List.setIfInBounds_toArray, List.set_cons_zero, List.set_cons_succ]
        refine wpAnyH_take (i := 24) (v := ?_) rfl (by kernel_rfl) (by kernel_rfl) (by kernel_rfl) (fun _ _ _ h => h) (Or.inl ⟨by rfl, ?_⟩) (by assumption) ?_
        rotate_left
        · intro w0 hSw
          (try dsimp only at hSw)
          go_simp
          try with_reducible rfl
        simp only [Act.put, List.getElem_toArray, List.getElem_cons_zero, List.getElem_cons_succ, List.setIfInBounds_toArray, List.set_cons_zero, List.set_cons_succ]
        refine wpAnyH_take (i := 25) (v := ?_) rfl (by kernel_rfl) (by kernel_rfl) (by kernel_rfl) (fun _ _ _ h => h) (Or.inl ⟨by rfl, ?_⟩) (by assumption) ?_
        rotate_left
        · intro w0 hSw
          (try dsimp only at hSw)
          go_simp
          try with_reducible rfl
        simp only [Act.put, List.getElem_toArray, List.getElem_cons_zero, List.getElem_cons_succ, List.setIfInBounds_toArray, List.set_cons_zero, List.set_cons_succ]
        refine wpAnyH_done (by kernel_rfl) ?_ _
        have B5 : Below w.heap.size w w5 := (Below.drew B4).trans (b5.mono (by have := B4.size; simpa using this))
        clear hHeld
        have z5s : w.heap.size < w5.heap.size := by simp at z5; omega
        have z5a : w2.heap.size < w5.heap.size := by simp at z5; omega
        rcases ho : coOk k st se er co cl with _ | _
        · go_wp2_with fail
          refine (refRight_any k st se er co cl _).mono ?_
          rintro r w6 ⟨rfl, b6⟩
          have B6 : Below w.heap.size w w6 := B5.trans (b6.mono (by omega))
          rw [ho]
          go_wp2
          go_ret
          exact ⟨rfl, B6⟩
        · have ho2 := HR.out ho
          go_wp2_with fail
          refine (refRight_any k st se er co cl _).mono ?_
          rintro r w6 ⟨rfl, b6⟩
          have z6 := b6.size
          have B6 : Below w.heap.size w w6 := B5.trans (b6.mono (by omega))
          have he2 := fun o => b6.cell (p := ⟨w2.heap.size, o, none⟩) (by simp; try omega)
          rw [ho]
          go_wp2_with fail
          refine (refRight_any (anK e) st se (anE e) co cl _).mono ?_
          rintro r w7 ⟨rfl, b7⟩
          have B7 : Below w.heap.size w w7 := B6.trans (b7.mono (by omega))
          rw [ho2]
          go_wp2
          go_ret
          exact ⟨rfl, B7⟩
      · refine wp_region_held_drew (S := (fun w' => w'.cell? ⟨w.heap.size, 0, none⟩ = some (.int .i32 (k)) ∧ w'.cell? ⟨w.heap.size, 1, none⟩ = some (.int .i32 (st)) ∧ w'.cell? ⟨w.heap.size, 2, none⟩ = some (.int .i32 (se)) ∧ w'.cell? ⟨w.heap.size, 3, none⟩ = some (.int .i32 (er)) ∧ w'.cell? ⟨w.heap.size, 4, none⟩ = some (.int .i64 (co)) ∧ w'.cell? ⟨w.heap.size, 5, none⟩ = some (.int .i64 (cl)) ∧ w'.cell? ⟨w.heap.size + 1, 0, none⟩ = some (.int .i32 (k2)) ∧ w'.cell? ⟨w.heap.size + 1, 1, none⟩ = some (.int .i32 (st2)) ∧ w'.cell? ⟨w.heap.size + 1, 2, none⟩ = some (.int .i32 (se2)) ∧ w'.cell? ⟨w.heap.size + 1, 3, none⟩ = some (.int .i32 (er2)) ∧ w'.cell? ⟨w.heap.size + 1, 4, none⟩ = some (.int .i64 (co2)) ∧ w'.cell? ⟨w.heap.size + 1, 5, none⟩ = some (.int .i64 (cl2)) ∧ w'.cell? ⟨w2.heap.size, 0, none⟩ = some (.int .i32 (anK e)) ∧ w'.cell? ⟨w2.heap.size, 1, none⟩ = some (.int .i32 (st)) ∧ w'.cell? ⟨w2.heap.size, 2, none⟩ = some (.int .i32 (se)) ∧ w'.cell? ⟨w2.heap.size, 3, none⟩ = some (.int .i32 (anE e)) ∧ w'.cell? ⟨w2.heap.size, 4, none⟩ = some (.int .i64 (co)) ∧ w'.cell? ⟨w2.heap.size, 5, none⟩ = some (.int .i64 (cl)))) (by kernel_rfl) ?_ (fun hHeld => ?_)
        · try dsimp only
          go_keep
        refine wpAnyH_take (i := 0) (v := ?_) rfl (by kernel_rfl) (by kernel_rfl) (by kernel_rfl) (fun _ _ _ h => h) (Or.inl ⟨by rfl, ?_⟩) (by assumption) ?_
        rotate_left
        · intro w0 hSw
          (try dsimp only at hSw)
          go_simp
          try with_reducible rfl
        simp only [Act.put, List.getElem_toArray, List.getElem_cons_zero, List.getElem_cons_succ, List.setIfInBounds_toArray, List.set_cons_zero, List.set_cons_succ]
        refine wpAnyH_take (i := 1) (v := ?_) rfl (by kernel_rfl) (by kernel_rfl) (by kernel_rfl) (fun _ _ _ h => h) (Or.inl ⟨by rfl, ?_⟩) (by assumption) ?_
        rotate_left
        · intro w0 hSw
          (try dsimp only at hSw)
          go_simp
          try with_reducible rfl
        simp only [Act.put, List.getElem_toArray, List.getElem_cons_zero, List.getElem_cons_succ, List.setIfInBounds_toArray, List.set_cons_zero, List.set_cons_succ]
        refine wpAnyH_take (i := 3) (v := ?_) rfl (by kernel_rfl) (by kernel_rfl) (by kernel_rfl) (fun _ _ _ h => h) (Or.inl ⟨by rfl, ?_⟩) (by assumption) ?_
        rotate_left
        · intro w0 hSw
          (try dsimp only at hSw)
          go_simp
          try with_reducible rfl
        simp only [Act.put, List.getElem_toArray, List.getElem_cons_zero, List.getElem_cons_succ, List.setIfInBounds_toArray, List.set_cons_zero, List.set_cons_succ]
        refine wpAnyH_take (i := 4) (v := ?_) rfl (by kernel_rfl) (by kernel_rfl) (by kernel_rfl) (fun _ _ _ h => h) (Or.inl ⟨by rfl, ?_⟩) (by assumption) ?_
        rotate_left
        · intro w0 hSw
          (try dsimp only at hSw)
          go_simp
          try with_reducible rfl
        simp only [Act.put, List.getElem_toArray, List.getElem_cons_zero, List.getElem_cons_succ, List.setIfInBounds_toArray, List.set_cons_zero, List.set_cons_succ]
        refine wpAnyH_take (i := 5) (v := ?_) rfl (by kernel_rfl) (by kernel_rfl) (by kernel_rfl) (fun _ _ _ h => h) (Or.inl ⟨by rfl, ?_⟩) (by assumption) ?_
        rotate_left
        · intro w0 hSw
          (try dsimp only at hSw)
          go_simp
          try with_reducible rfl
        simp only [Act.put, List.getElem_toArray, List.getElem_cons_zero, List.getElem_cons_succ, List.setIfInBounds_toArray, List.set_cons_zero, List.set_cons_succ]
        refine wpAnyH_ready (rs := [2]) (by kernel_rfl) (by simp) ?_
        refine AllReadyH.cons rfl (fun K hK => ?_) AllReadyH.nil
        go_simp
        go_at_call 19
        refine (coIs_any k2 st2 se2 er2 co2 cl2 k st se er co cl _).mono ?_
        rintro r w5 ⟨rfl, b5⟩
        have z5 := b5.size
        have hd0 := fun o => b5.cell (p := ⟨w.heap.size, o, none⟩) (by simp; try omega)
        have hd1 := fun o => b5.cell (p := ⟨w.heap.size + 1, o, none⟩) (by simp; try omega)
        have hd2 := fun o => b5.cell (p := ⟨w2.heap.size, o, none⟩) (by simp; try omega)
        go_wp2_with fail
        refine hK.out _ _ ?_ (fun hHeld => ?_)
        · try dsimp only
          go_keep
        clear hK K
        try simp only [Act.put, List.getElem_toArray, List.getElem_cons_zero, List.getElem_cons_succ, List.setIfInBounds_toArray, List.set_cons_zero, List.set_cons_succ]
        refine wpAnyH_take (i := 6) (v := ?_) rfl (by kernel_rfl) (by kernel_rfl) (by kernel_rfl) (fun _ _ _ h => h) (Or.inl ⟨by rfl, ?_⟩) (by assumption) ?_
        rotate_left
        · intro w0 hSw
          (try dsimp only at hSw)
          go_simp
          try with_reducible rfl
        simp only [Act.put, List.getElem_toArray, List.getElem_cons_zero, List.getElem_cons_succ, List.setIfInBounds_toArray, List.set_cons_zero, List.set_cons_succ]
        refine wpAnyH_take (i := 7) (v := ?_) rfl (by kernel_rfl) (by kernel_rfl) (by kernel_rfl) (fun _ _ _ h => h) (Or.inl ⟨by rfl, ?_⟩) (by assumption) ?_
        rotate_left
        · intro w0 hSw
          (try dsimp only at hSw)
          go_simp
          try with_reducible rfl
        simp only [Act.put, List.getElem_toArray, List.getElem_cons_zero, List.getElem_cons_succ, List.setIfInBounds_toArray, List.set_cons_zero, List.set_cons_succ]
        refine wpAnyH_take (i := 8) (v := ?_) rfl (by kernel_rfl) (by kernel_rfl) (by kernel_rfl) (fun _ _ _ h => h) (Or.inl ⟨by rfl, ?_⟩) (by assumption) ?_
        rotate_left
        · intro w0 hSw
          (try dsimp only at hSw)
          go_simp
          try with_reducible rfl
        simp only [Act.put, List.getElem_toArray, List.getElem_cons_zero, List.getElem_cons_succ, List.setIfInBounds_toArray, List.set_cons_zero, List.set_cons_succ]
        refine wpAnyH_take (i := 9) (v := ?_) rfl (by kernel_rfl) (by kernel_rfl) (by kernel_rfl) (fun _ _ _ h => h) (Or.inl ⟨by rfl, ?_⟩) (by assumption) ?_
        rotate_left
        · intro w0 hSw
          (try dsimp only at hSw)
          go_simp
          try with_reducible rfl
        simp only [Act.put, List.getElem_toArray, List.getElem_cons_zero, List.getElem_cons_succ, List.setIfInBounds_toArray, List.set_cons_zero, List.set_cons_succ]
        refine wpAnyH_take (i := 10) (v := ?_) rfl (by kernel_rfl) (by kernel_rfl) (by kernel_rfl) (fun _ _ _ h => h) (Or.inl ⟨by rfl, ?_⟩) (by assumption) ?_
        rotate_left
        · intro w0 hSw
          (try dsimp only at hSw)
          go_simp
          try with_reducible rfl
        simp only [Act.put, List.getElem_toArray, List.getElem_cons_zero, List.getElem_cons_succ, List.setIfInBounds_toArray, List.set_cons_zero, List.set_cons_succ]
        refine wpAnyH_take (i := 11) (v := ?_) rfl (by kernel_rfl) (by kernel_rfl) (by kernel_rfl) (fun _ _ _ h => h) (Or.inl ⟨by rfl, ?_⟩) (by assumption) ?_
        rotate_left
        · intro w0 hSw
          (try dsimp only at hSw)
          go_simp
          try with_reducible rfl
        simp only [Act.put, List.getElem_toArray, List.getElem_cons_zero, List.getElem_cons_succ, List.setIfInBounds_toArray, List.set_cons_zero, List.set_cons_succ]
        refine wpAnyH_take (i := 12) (v := ?_) rfl (by kernel_rfl) (by kernel_rfl) (by kernel_rfl) (fun _ _ _ h => h) (Or.inl ⟨by rfl, ?_⟩) (by assumption) ?_
        rotate_left
        · intro w0 hSw
          (try dsimp only at hSw)
          go_simp
          try with_reducible rfl
        simp only [Act.put, List.getElem_toArray, List.getElem_cons_zero, List.getElem_cons_succ, List.setIfInBounds_toArray, List.set_cons_zero, List.set_cons_succ]
        refine wpAnyH_take (i := 13) (v := ?_) rfl (by kernel_rfl) (by kernel_rfl) (by kernel_rfl) (fun _ _ _ h => h) (Or.inl ⟨by rfl, ?_⟩) (by assumption) ?_
        rotate_left
        · intro w0 hSw
          (try dsimp only at hSw)
          go_simp
          try with_reducible rfl
        simp only [Act.put, List.getElem_toArray, List.getElem_cons_zero, List.getElem_cons_succ, List.setIfInBounds_toArray, List.set_cons_zero, List.set_cons_succ]
        refine wpAnyH_take (i := 14) (v := ?_) rfl (by kernel_rfl) (by kernel_rfl) (by kernel_rfl) (fun _ _ _ h => h) (Or.inl ⟨by rfl, ?_⟩) (by assumption) ?_
        rotate_left
        · intro w0 hSw
          (try dsimp only at hSw)
          go_simp
          try with_reducible rfl
        simp only [Act.put, List.getElem_toArray, List.getElem_cons_zero, List.getElem_cons_succ, List.setIfInBounds_toArray, List.set_cons_zero, List.set_cons_succ]
        refine wpAnyH_take (i := 15) (v := ?_) rfl (by kernel_rfl) (by kernel_rfl) (by kernel_rfl) (fun _ _ _ h => h) (Or.inl ⟨by rfl, ?_⟩) (by assumption) ?_
        rotate_left
        · intro w0 hSw
          (try dsimp only at hSw)
          go_simp
          try with_reducible rfl
        simp only [Act.put, List.getElem_toArray, List.getElem_cons_zero, List.getElem_cons_succ, List.setIfInBounds_toArray, List.set_cons_zero, List.set_cons_succ]
        refine wpAnyH_take (i := 16) (v := ?_) rfl (by kernel_rfl) (by kernel_rfl) (by kernel_rfl) (fun _ _ _ h => h) (Or.inl ⟨by rfl, ?_⟩) (by assumption) ?_
        rotate_left
        · intro w0 hSw
          (try dsimp only at hSw)
          go_simp
          try with_reducible rfl
        simp only [Act.put, List.getElem_toArray, List.getElem_cons_zero, List.getElem_cons_succ, List.setIfInBounds_toArray, List.set_cons_zero, List.set_cons_succ]
        refine wpAnyH_take (i := 17) (v := ?_) rfl (by kernel_rfl) (by kernel_rfl) (by kernel_rfl) (fun _ _ _ h => h) (Or.inl ⟨by rfl, ?_⟩) (by assumption) ?_
        rotate_left
        · intro w0 hSw
          (try dsimp only at hSw)
          go_simp
          try with_reducible rfl
        simp only [Act.put, List.getElem_toArray, List.getElem_cons_zero, List.getElem_cons_succ, List.setIfInBounds_toArray, List.set_cons_zero, List.set_cons_succ]
        refine wpAnyH_take (i := 18) (v := ?_) rfl (by kernel_rfl) (by kernel_rfl) (by kernel_rfl) (fun _ _ _ h => h) (Or.inl ⟨by rfl, ?_⟩) (by assumption) ?_
        rotate_left
        · intro w0 hSw
          (try dsimp only at hSw)
          go_simp
          try with_reducible rfl
        simp only [Act.put, List.getElem_toArray, List.getElem_cons_zero, List.getElem_cons_succ, List.setIfInBounds_toArray, List.set_cons_zero, List.set_cons_succ]
        refine wpAnyH_take (i := 19) (v := ?_) rfl (by kernel_rfl) (by kernel_rfl) (by kernel_rfl) (fun _ _ _ h => h) (Or.inl ⟨by rfl, ?_⟩) (by assumption) ?_
        rotate_left
        · intro w0 hSw
          (try dsimp only at hSw)
          go_simp
          try with_reducible rfl
        simp only [Act.put, List.getElem_toArray, List.getElem_cons_zero, List.getElem_cons_succ, List.setIfInBounds_toArray, List.set_cons_zero, List.set_cons_succ]
        refine wpAnyH_take (i := 20) (v := ?_) rfl (by kernel_rfl) (by kernel_rfl) (by kernel_rfl) (fun _ _ _ h => h) (Or.inl ⟨by rfl, ?_⟩) (by assumption) ?_
        rotate_left
        · intro w0 hSw
          (try dsimp only at hSw)
          go_simp
          try with_reducible rfl
        simp only [Act.put, List.getElem_toArray, List.getElem_cons_zero, List.getElem_cons_succ, List.setIfInBounds_toArray, List.set_cons_zero, List.set_cons_succ]
        refine wpAnyH_take (i := 21) (v := ?_) rfl (by kernel_rfl) (by kernel_rfl) (by kernel_rfl) (fun _ _ _ h => h) (Or.inl ⟨by rfl, ?_⟩) (by assumption) ?_
        rotate_left
        · intro w0 hSw
          (try dsimp only at hSw)
          go_simp
          try with_reducible rfl
        simp only [Act.put, List.getElem_toArray, List.getElem_cons_zero, List.getElem_cons_succ, List.setIfInBounds_toArray, List.set_cons_zero, List.set_cons_succ]
        refine wpAnyH_take (i := 22) (v := ?_) rfl (by kernel_rfl) (by kernel_rfl) (by kernel_rfl) (fun _ _ _ h => h) (Or.inl ⟨by rfl, ?_⟩) (by assumption) ?_
        rotate_left
        · intro w0 hSw
          (try dsimp only at hSw)
          go_simp
          try with_reducible rfl
        simp only [Act.put, List.getElem_toArray, List.getElem_cons_zero, List.getElem_cons_succ, List.setIfInBounds_toArray, List.set_cons_zero, List.set_cons_succ]
        refine wpAnyH_take (i := 23) (v := ?_) rfl (by kernel_rfl) (by kernel_rfl) (by kernel_rfl) (fun _ _ _ h => h) (Or.inl ⟨by rfl, ?_⟩) (by assumption) ?_
        rotate_left
        · intro w0 hSw
          (try dsimp only at hSw)
          go_simp
          try with_reducible rfl
        simp only [Act.put, List.getElem_toArray, List.getElem_cons_zero, List.getElem_cons_succ, List.setIfInBounds_toArray, List.set_cons_zero, List.set_cons_succ]
        refine wpAnyH_take (i := 24) (v := ?_) rfl (by kernel_rfl) (by kernel_rfl) (by kernel_rfl) (fun _ _ _ h => h) (Or.inl ⟨by rfl, ?_⟩) (by assumption) ?_
        rotate_left
        · intro w0 hSw
          (try dsimp only at hSw)
          go_simp
          try with_reducible rfl
        simp only [Act.put, List.getElem_toArray, List.getElem_cons_zero, List.getElem_cons_succ, List.setIfInBounds_toArray, List.set_cons_zero, List.set_cons_succ]
        refine wpAnyH_take (i := 25) (v := ?_) rfl (by kernel_rfl) (by kernel_rfl) (by kernel_rfl) (fun _ _ _ h => h) (Or.inl ⟨by rfl, ?_⟩) (by assumption) ?_
        rotate_left
        · intro w0 hSw
          (try dsimp only at hSw)
          go_simp
          try with_reducible rfl
        simp only [Act.put, List.getElem_toArray, List.getElem_cons_zero, List.getElem_cons_succ, List.setIfInBounds_toArray, List.set_cons_zero, List.set_cons_succ]
        refine wpAnyH_done (by kernel_rfl) ?_ _
        have B5 : Below w.heap.size w w5 := (Below.drew B4).trans (b5.mono (by have := B4.size; simpa using this))
        clear hHeld
        have z5s : w.heap.size < w5.heap.size := by simp at z5; omega
        have z5a : w2.heap.size < w5.heap.size := by simp at z5; omega
        rcases ho : coOk k st se er co cl with _ | _
        · go_wp2_with fail
          refine (refRight_any k st se er co cl _).mono ?_
          rintro r w6 ⟨rfl, b6⟩
          have B6 : Below w.heap.size w w6 := B5.trans (b6.mono (by omega))
          rw [ho]
          go_wp2
          go_ret
          exact ⟨rfl, B6⟩
        · have ho2 := HR.out ho
          go_wp2_with fail
          refine (refRight_any k st se er co cl _).mono ?_
          rintro r w6 ⟨rfl, b6⟩
          have z6 := b6.size
          have B6 : Below w.heap.size w w6 := B5.trans (b6.mono (by omega))
          have he2 := fun o => b6.cell (p := ⟨w2.heap.size, o, none⟩) (by simp; try omega)
          rw [ho]
          go_wp2_with fail
          refine (refRight_any (anK e) st se (anE e) co cl _).mono ?_
          rintro r w7 ⟨rfl, b7⟩
          have B7 : Below w.heap.size w w7 := B6.trans (b7.mono (by omega))
          rw [ho2]
          go_wp2
          go_ret
          exact ⟨rfl, B7⟩
  · rcases h7 : (co2 == co) with _ | _
    · refine wp_region_held_drew (S := (fun w' => w'.cell? ⟨w.heap.size, 0, none⟩ = some (.int .i32 (k)) ∧ w'.cell? ⟨w.heap.size, 1, none⟩ = some (.int .i32 (st)) ∧ w'.cell? ⟨w.heap.size, 2, none⟩ = some (.int .i32 (se)) ∧ w'.cell? ⟨w.heap.size, 3, none⟩ = some (.int .i32 (er)) ∧ w'.cell? ⟨w.heap.size, 4, none⟩ = some (.int .i64 (co)) ∧ w'.cell? ⟨w.heap.size, 5, none⟩ = some (.int .i64 (cl)) ∧ w'.cell? ⟨w.heap.size + 1, 0, none⟩ = some (.int .i32 (k2)) ∧ w'.cell? ⟨w.heap.size + 1, 1, none⟩ = some (.int .i32 (st2)) ∧ w'.cell? ⟨w.heap.size + 1, 2, none⟩ = some (.int .i32 (se2)) ∧ w'.cell? ⟨w.heap.size + 1, 3, none⟩ = some (.int .i32 (er2)) ∧ w'.cell? ⟨w.heap.size + 1, 4, none⟩ = some (.int .i64 (co2)) ∧ w'.cell? ⟨w.heap.size + 1, 5, none⟩ = some (.int .i64 (cl2)) ∧ w'.cell? ⟨w2.heap.size, 0, none⟩ = some (.int .i32 (anK e)) ∧ w'.cell? ⟨w2.heap.size, 1, none⟩ = some (.int .i32 (st)) ∧ w'.cell? ⟨w2.heap.size, 2, none⟩ = some (.int .i32 (se)) ∧ w'.cell? ⟨w2.heap.size, 3, none⟩ = some (.int .i32 (anE e)) ∧ w'.cell? ⟨w2.heap.size, 4, none⟩ = some (.int .i64 (co)) ∧ w'.cell? ⟨w2.heap.size, 5, none⟩ = some (.int .i64 (cl)))) (by kernel_rfl) ?_ (fun hHeld => ?_)
      · try dsimp only
        go_keep
      refine wpAnyH_take (i := 0) (v := ?_) rfl (by kernel_rfl) (by kernel_rfl) (by kernel_rfl) (fun _ _ _ h => h) (Or.inl ⟨by rfl, ?_⟩) (by assumption) ?_
      rotate_left
      · intro w0 hSw
        (try dsimp only at hSw)
        go_simp
        try with_reducible rfl
      simp only [Act.put, List.getElem_toArray, List.getElem_cons_zero, List.getElem_cons_succ, List.setIfInBounds_toArray, List.set_cons_zero, List.set_cons_succ]
      refine wpAnyH_take (i := 1) (v := ?_) rfl (by kernel_rfl) (by kernel_rfl) (by kernel_rfl) (fun _ _ _ h => h) (Or.inl ⟨by rfl, ?_⟩) (by assumption) ?_
      rotate_left
      · intro w0 hSw
        (try dsimp only at hSw)
        go_simp
        try with_reducible rfl
      simp only [Act.put, List.getElem_toArray, List.getElem_cons_zero, List.getElem_cons_succ, List.setIfInBounds_toArray, List.set_cons_zero, List.set_cons_succ]
      refine wpAnyH_take (i := 3) (v := ?_) rfl (by kernel_rfl) (by kernel_rfl) (by kernel_rfl) (fun _ _ _ h => h) (Or.inl ⟨by rfl, ?_⟩) (by assumption) ?_
      rotate_left
      · intro w0 hSw
        (try dsimp only at hSw)
        go_simp
        try with_reducible rfl
      simp only [Act.put, List.getElem_toArray, List.getElem_cons_zero, List.getElem_cons_succ, List.setIfInBounds_toArray, List.set_cons_zero, List.set_cons_succ]
      refine wpAnyH_take (i := 4) (v := ?_) rfl (by kernel_rfl) (by kernel_rfl) (by kernel_rfl) (fun _ _ _ h => h) (Or.inl ⟨by rfl, ?_⟩) (by assumption) ?_
      rotate_left
      · intro w0 hSw
        (try dsimp only at hSw)
        go_simp
        try with_reducible rfl
      simp only [Act.put, List.getElem_toArray, List.getElem_cons_zero, List.getElem_cons_succ, List.setIfInBounds_toArray, List.set_cons_zero, List.set_cons_succ]
      refine wpAnyH_take (i := 5) (v := ?_) rfl (by kernel_rfl) (by kernel_rfl) (by kernel_rfl) (fun _ _ _ h => h) (Or.inl ⟨by rfl, ?_⟩) (by assumption) ?_
      rotate_left
      · intro w0 hSw
        (try dsimp only at hSw)
        go_simp
        try with_reducible rfl
      simp only [Act.put, List.getElem_toArray, List.getElem_cons_zero, List.getElem_cons_succ, List.setIfInBounds_toArray, List.set_cons_zero, List.set_cons_succ]
      refine wpAnyH_ready (rs := [2]) (by kernel_rfl) (by simp) ?_
      refine AllReadyH.cons rfl (fun K hK => ?_) AllReadyH.nil
      go_simp
      go_at_call 19
      refine (coIs_any k2 st2 se2 er2 co2 cl2 k st se er co cl _).mono ?_
      rintro r w5 ⟨rfl, b5⟩
      have z5 := b5.size
      have hd0 := fun o => b5.cell (p := ⟨w.heap.size, o, none⟩) (by simp; try omega)
      have hd1 := fun o => b5.cell (p := ⟨w.heap.size + 1, o, none⟩) (by simp; try omega)
      have hd2 := fun o => b5.cell (p := ⟨w2.heap.size, o, none⟩) (by simp; try omega)
      go_wp2_with fail
      refine hK.out _ _ ?_ (fun hHeld => ?_)
      · try dsimp only
        go_keep
      clear hK K
      try simp only [Act.put, List.getElem_toArray, List.getElem_cons_zero, List.getElem_cons_succ, List.setIfInBounds_toArray, List.set_cons_zero, List.set_cons_succ]
      refine wpAnyH_take (i := 6) (v := ?_) rfl (by kernel_rfl) (by kernel_rfl) (by kernel_rfl) (fun _ _ _ h => h) (Or.inl ⟨by rfl, ?_⟩) (by assumption) ?_
      rotate_left
      · intro w0 hSw
        (try dsimp only at hSw)
        go_simp
        try with_reducible rfl
      simp only [Act.put, List.getElem_toArray, List.getElem_cons_zero, List.getElem_cons_succ, List.setIfInBounds_toArray, List.set_cons_zero, List.set_cons_succ]
      refine wpAnyH_take (i := 7) (v := undef) rfl (by kernel_rfl) (by kernel_rfl) (by kernel_rfl) (fun _ _ _ h => h) (Or.inr ⟨by rfl, rfl⟩) (by assumption) ?_
      simp only [Act.put, List.getElem_toArray, List.getElem_cons_zero, List.getElem_cons_succ, List.setIfInBounds_toArray, List.set_cons_zero, List.set_cons_succ]
      refine wpAnyH_take (i := 8) (v := undef) rfl (by kernel_rfl) (by kernel_rfl) (by kernel_rfl) (fun _ _ _ h => h) (Or.inr ⟨by rfl, rfl⟩) (by assumption) ?_
      simp only [Act.put, List.getElem_toArray, List.getElem_cons_zero, List.getElem_cons_succ, List.setIfInBounds_toArray, List.set_cons_zero, List.set_cons_succ]
      refine wpAnyH_take (i := 9) (v := undef) rfl (by kernel_rfl) (by kernel_rfl) (by kernel_rfl) (fun _ _ _ h => h) (Or.inr ⟨by rfl, rfl⟩) (by assumption) ?_
      simp only [Act.put, List.getElem_toArray, List.getElem_cons_zero, List.getElem_cons_succ, List.setIfInBounds_toArray, List.set_cons_zero, List.set_cons_succ]
      refine wpAnyH_take (i := 10) (v := ?_) rfl (by kernel_rfl) (by kernel_rfl) (by kernel_rfl) (fun _ _ _ h => h) (Or.inl ⟨by rfl, ?_⟩) (by assumption) ?_
      rotate_left
      · intro w0 hSw
        (try dsimp only at hSw)
        go_simp
        try with_reducible rfl
      simp only [Act.put, List.getElem_toArray, List.getElem_cons_zero, List.getElem_cons_succ, List.setIfInBounds_toArray, List.set_cons_zero, List.set_cons_succ]
      refine wpAnyH_take (i := 11) (v := ?_) rfl (by kernel_rfl) (by kernel_rfl) (by kernel_rfl) (fun _ _ _ h => h) (Or.inl ⟨by rfl, ?_⟩) (by assumption) ?_
      rotate_left
      · intro w0 hSw
        (try dsimp only at hSw)
        go_simp
        try with_reducible rfl
      simp only [Act.put, List.getElem_toArray, List.getElem_cons_zero, List.getElem_cons_succ, List.setIfInBounds_toArray, List.set_cons_zero, List.set_cons_succ]
      refine wpAnyH_take (i := 12) (v := ?_) rfl (by kernel_rfl) (by kernel_rfl) (by kernel_rfl) (fun _ _ _ h => h) (Or.inl ⟨by rfl, ?_⟩) (by assumption) ?_
      rotate_left
      · intro w0 hSw
        (try dsimp only at hSw)
        go_simp
        try with_reducible rfl
      simp only [Act.put, List.getElem_toArray, List.getElem_cons_zero, List.getElem_cons_succ, List.setIfInBounds_toArray, List.set_cons_zero, List.set_cons_succ]
      refine wpAnyH_take (i := 13) (v := ?_) rfl (by kernel_rfl) (by kernel_rfl) (by kernel_rfl) (fun _ _ _ h => h) (Or.inl ⟨by rfl, ?_⟩) (by assumption) ?_
      rotate_left
      · intro w0 hSw
        (try dsimp only at hSw)
        go_simp
        try with_reducible rfl
      simp only [Act.put, List.getElem_toArray, List.getElem_cons_zero, List.getElem_cons_succ, List.setIfInBounds_toArray, List.set_cons_zero, List.set_cons_succ]
      refine wpAnyH_take (i := 14) (v := ?_) rfl (by kernel_rfl) (by kernel_rfl) (by kernel_rfl) (fun _ _ _ h => h) (Or.inl ⟨by rfl, ?_⟩) (by assumption) ?_
      rotate_left
      · intro w0 hSw
        (try dsimp only at hSw)
        go_simp
        try with_reducible rfl
      simp only [Act.put, List.getElem_toArray, List.getElem_cons_zero, List.getElem_cons_succ, List.setIfInBounds_toArray, List.set_cons_zero, List.set_cons_succ]
      refine wpAnyH_take (i := 15) (v := ?_) rfl (by kernel_rfl) (by kernel_rfl) (by kernel_rfl) (fun _ _ _ h => h) (Or.inl ⟨by rfl, ?_⟩) (by assumption) ?_
      rotate_left
      · intro w0 hSw
        (try dsimp only at hSw)
        go_simp
        try with_reducible rfl
      simp only [Act.put, List.getElem_toArray, List.getElem_cons_zero, List.getElem_cons_succ, List.setIfInBounds_toArray, List.set_cons_zero, List.set_cons_succ]
      refine wpAnyH_take (i := 16) (v := ?_) rfl (by kernel_rfl) (by kernel_rfl) (by kernel_rfl) (fun _ _ _ h => h) (Or.inl ⟨by rfl, ?_⟩) (by assumption) ?_
      rotate_left
      · intro w0 hSw
        (try dsimp only at hSw)
        go_simp
        try with_reducible rfl
      simp only [Act.put, List.getElem_toArray, List.getElem_cons_zero, List.getElem_cons_succ, List.setIfInBounds_toArray, List.set_cons_zero, List.set_cons_succ]
      refine wpAnyH_take (i := 17) (v := ?_) rfl (by kernel_rfl) (by kernel_rfl) (by kernel_rfl) (fun _ _ _ h => h) (Or.inl ⟨by rfl, ?_⟩) (by assumption) ?_
      rotate_left
      · intro w0 hSw
        (try dsimp only at hSw)
        go_simp
        try with_reducible rfl
      simp only [Act.put, List.getElem_toArray, List.getElem_cons_zero, List.getElem_cons_succ, List.setIfInBounds_toArray, List.set_cons_zero, List.set_cons_succ]
      refine wpAnyH_take (i := 18) (v := ?_) rfl (by kernel_rfl) (by kernel_rfl) (by kernel_rfl) (fun _ _ _ h => h) (Or.inl ⟨by rfl, ?_⟩) (by assumption) ?_
      rotate_left
      · intro w0 hSw
        (try dsimp only at hSw)
        go_simp
        try with_reducible rfl
      simp only [Act.put, List.getElem_toArray, List.getElem_cons_zero, List.getElem_cons_succ, List.setIfInBounds_toArray, List.set_cons_zero, List.set_cons_succ]
      refine wpAnyH_take (i := 19) (v := undef) rfl (by kernel_rfl) (by kernel_rfl) (by kernel_rfl) (fun _ _ _ h => h) (Or.inr ⟨by rfl, rfl⟩) (by assumption) ?_
      simp only [Act.put, List.getElem_toArray, List.getElem_cons_zero, List.getElem_cons_succ, List.setIfInBounds_toArray, List.set_cons_zero, List.set_cons_succ]
      refine wpAnyH_take (i := 20) (v := undef) rfl (by kernel_rfl) (by kernel_rfl) (by kernel_rfl) (fun _ _ _ h => h) (Or.inr ⟨by rfl, rfl⟩) (by assumption) ?_
      simp only [Act.put, List.getElem_toArray, List.getElem_cons_zero, List.getElem_cons_succ, List.setIfInBounds_toArray, List.set_cons_zero, List.set_cons_succ]
      refine wpAnyH_take (i := 21) (v := undef) rfl (by kernel_rfl) (by kernel_rfl) (by kernel_rfl) (fun _ _ _ h => h) (Or.inr ⟨by rfl, rfl⟩) (by assumption) ?_
      simp only [Act.put, List.getElem_toArray, List.getElem_cons_zero, List.getElem_cons_succ, List.setIfInBounds_toArray, List.set_cons_zero, List.set_cons_succ]
      refine wpAnyH_take (i := 22) (v := undef) rfl (by kernel_rfl) (by kernel_rfl) (by kernel_rfl) (fun _ _ _ h => h) (Or.inr ⟨by rfl, rfl⟩) (by assumption) ?_
      simp only [Act.put, List.getElem_toArray, List.getElem_cons_zero, List.getElem_cons_succ, List.setIfInBounds_toArray, List.set_cons_zero, List.set_cons_succ]
      refine wpAnyH_take (i := 23) (v := undef) rfl (by kernel_rfl) (by kernel_rfl) (by kernel_rfl) (fun _ _ _ h => h) (Or.inr ⟨by rfl, rfl⟩) (by assumption) ?_
      simp only [Act.put, List.getElem_toArray, List.getElem_cons_zero, List.getElem_cons_succ, List.setIfInBounds_toArray, List.set_cons_zero, List.set_cons_succ]
      refine wpAnyH_take (i := 24) (v := ?_) rfl (by kernel_rfl) (by kernel_rfl) (by kernel_rfl) (fun _ _ _ h => h) (Or.inl ⟨by rfl, ?_⟩) (by assumption) ?_
      rotate_left
      · intro w0 hSw
        (try dsimp only at hSw)
        go_simp
        try with_reducible rfl
      simp only [Act.put, List.getElem_toArray, List.getElem_cons_zero, List.getElem_cons_succ, List.setIfInBounds_toArray, List.set_cons_zero, List.set_cons_succ]
      refine wpAnyH_take (i := 25) (v := ?_) rfl (by kernel_rfl) (by kernel_rfl) (by kernel_rfl) (fun _ _ _ h => h) (Or.inl ⟨by rfl, ?_⟩) (by assumption) ?_
      rotate_left
      · intro w0 hSw
        (try dsimp only at hSw)
        go_simp
        try with_reducible rfl
      simp only [Act.put, List.getElem_toArray, List.getElem_cons_zero, List.getElem_cons_succ, List.setIfInBounds_toArray, List.set_cons_zero, List.set_cons_succ]
      refine wpAnyH_done (by kernel_rfl) ?_ _
      have B5 : Below w.heap.size w w5 := (Below.drew B4).trans (b5.mono (by have := B4.size; simpa using this))
      clear hHeld
      have z5s : w.heap.size < w5.heap.size := by simp at z5; omega
      have z5a : w2.heap.size < w5.heap.size := by simp at z5; omega
      rcases ho : coOk k st se er co cl with _ | _
      · go_wp2_with fail
        refine (refRight_any k st se er co cl _).mono ?_
        rintro r w6 ⟨rfl, b6⟩
        have B6 : Below w.heap.size w w6 := B5.trans (b6.mono (by omega))
        rw [ho]
        go_wp2
        go_ret
        exact ⟨rfl, B6⟩
      · have ho2 := HR.out ho
        go_wp2_with fail
        refine (refRight_any k st se er co cl _).mono ?_
        rintro r w6 ⟨rfl, b6⟩
        have z6 := b6.size
        have B6 : Below w.heap.size w w6 := B5.trans (b6.mono (by omega))
        have he2 := fun o => b6.cell (p := ⟨w2.heap.size, o, none⟩) (by simp; try omega)
        rw [ho]
        go_wp2_with fail
        refine (refRight_any (anK e) st se (anE e) co cl _).mono ?_
        rintro r w7 ⟨rfl, b7⟩
        have B7 : Below w.heap.size w w7 := B6.trans (b7.mono (by omega))
        rw [ho2]
        go_wp2
        go_ret
        exact ⟨rfl, B7⟩
    · refine wp_region_held_drew (S := (fun w' => w'.cell? ⟨w.heap.size, 0, none⟩ = some (.int .i32 (k)) ∧ w'.cell? ⟨w.heap.size, 1, none⟩ = some (.int .i32 (st)) ∧ w'.cell? ⟨w.heap.size, 2, none⟩ = some (.int .i32 (se)) ∧ w'.cell? ⟨w.heap.size, 3, none⟩ = some (.int .i32 (er)) ∧ w'.cell? ⟨w.heap.size, 4, none⟩ = some (.int .i64 (co)) ∧ w'.cell? ⟨w.heap.size, 5, none⟩ = some (.int .i64 (cl)) ∧ w'.cell? ⟨w.heap.size + 1, 0, none⟩ = some (.int .i32 (k2)) ∧ w'.cell? ⟨w.heap.size + 1, 1, none⟩ = some (.int .i32 (st2)) ∧ w'.cell? ⟨w.heap.size + 1, 2, none⟩ = some (.int .i32 (se2)) ∧ w'.cell? ⟨w.heap.size + 1, 3, none⟩ = some (.int .i32 (er2)) ∧ w'.cell? ⟨w.heap.size + 1, 4, none⟩ = some (.int .i64 (co2)) ∧ w'.cell? ⟨w.heap.size + 1, 5, none⟩ = some (.int .i64 (cl2)) ∧ w'.cell? ⟨w2.heap.size, 0, none⟩ = some (.int .i32 (anK e)) ∧ w'.cell? ⟨w2.heap.size, 1, none⟩ = some (.int .i32 (st)) ∧ w'.cell? ⟨w2.heap.size, 2, none⟩ = some (.int .i32 (se)) ∧ w'.cell? ⟨w2.heap.size, 3, none⟩ = some (.int .i32 (anE e)) ∧ w'.cell? ⟨w2.heap.size, 4, none⟩ = some (.int .i64 (co)) ∧ w'.cell? ⟨w2.heap.size, 5, none⟩ = some (.int .i64 (cl)))) (by kernel_rfl) ?_ (fun hHeld => ?_)
      · try dsimp only
        go_keep
      refine wpAnyH_take (i := 0) (v := ?_) rfl (by kernel_rfl) (by kernel_rfl) (by kernel_rfl) (fun _ _ _ h => h) (Or.inl ⟨by rfl, ?_⟩) (by assumption) ?_
      rotate_left
      · intro w0 hSw
        (try dsimp only at hSw)
        go_simp
        try with_reducible rfl
      simp only [Act.put, List.getElem_toArray, List.getElem_cons_zero, List.getElem_cons_succ, List.setIfInBounds_toArray, List.set_cons_zero, List.set_cons_succ]
      refine wpAnyH_take (i := 1) (v := ?_) rfl (by kernel_rfl) (by kernel_rfl) (by kernel_rfl) (fun _ _ _ h => h) (Or.inl ⟨by rfl, ?_⟩) (by assumption) ?_
      rotate_left
      · intro w0 hSw
        (try dsimp only at hSw)
        go_simp
        try with_reducible rfl
      simp only [Act.put, List.getElem_toArray, List.getElem_cons_zero, List.getElem_cons_succ, List.setIfInBounds_toArray, List.set_cons_zero, List.set_cons_succ]
      refine wpAnyH_take (i := 3) (v := ?_) rfl (by kernel_rfl) (by kernel_rfl) (by kernel_rfl) (fun _ _ _ h => h) (Or.inl ⟨by rfl, ?_⟩) (by assumption) ?_
      rotate_left
      · intro w0 hSw
        (try dsimp only at hSw)
        go_simp
        try with_reducible rfl
      simp only [Act.put, List.getElem_toArray, List.getElem_cons_zero, List.getElem_cons_succ, List.setIfInBounds_toArray, List.set_cons_zero, List.set_cons_succ]
      refine wpAnyH_take (i := 4) (v := ?_) rfl (by kernel_rfl) (by kernel_rfl) (by kernel_rfl) (fun _ _ _ h => h) (Or.inl ⟨by rfl, ?_⟩) (by assumption) ?_
      rotate_left
      · intro w0 hSw
        (try dsimp only at hSw)
        go_simp
        try with_reducible rfl
      simp only [Act.put, List.getElem_toArray, List.getElem_cons_zero, List.getElem_cons_succ, List.setIfInBounds_toArray, List.set_cons_zero, List.set_cons_succ]
      refine wpAnyH_take (i := 5) (v := ?_) rfl (by kernel_rfl) (by kernel_rfl) (by kernel_rfl) (fun _ _ _ h => h) (Or.inl ⟨by rfl, ?_⟩) (by assumption) ?_
      rotate_left
      · intro w0 hSw
        (try dsimp only at hSw)
        go_simp
        try with_reducible rfl
      simp only [Act.put, List.getElem_toArray, List.getElem_cons_zero, List.getElem_cons_succ, List.setIfInBounds_toArray, List.set_cons_zero, List.set_cons_succ]
      refine wpAnyH_ready (rs := [2]) (by kernel_rfl) (by simp) ?_
      refine AllReadyH.cons rfl (fun K hK => ?_) AllReadyH.nil
      go_simp
      go_at_call 19
      refine (coIs_any k2 st2 se2 er2 co2 cl2 k st se er co cl _).mono ?_
      rintro r w5 ⟨rfl, b5⟩
      have z5 := b5.size
      have hd0 := fun o => b5.cell (p := ⟨w.heap.size, o, none⟩) (by simp; try omega)
      have hd1 := fun o => b5.cell (p := ⟨w.heap.size + 1, o, none⟩) (by simp; try omega)
      have hd2 := fun o => b5.cell (p := ⟨w2.heap.size, o, none⟩) (by simp; try omega)
      go_wp2_with fail
      refine hK.out _ _ ?_ (fun hHeld => ?_)
      · try dsimp only
        go_keep
      clear hK K
      try simp only [Act.put, List.getElem_toArray, List.getElem_cons_zero, List.getElem_cons_succ, List.setIfInBounds_toArray, List.set_cons_zero, List.set_cons_succ]
      refine wpAnyH_take (i := 6) (v := ?_) rfl (by kernel_rfl) (by kernel_rfl) (by kernel_rfl) (fun _ _ _ h => h) (Or.inl ⟨by rfl, ?_⟩) (by assumption) ?_
      rotate_left
      · intro w0 hSw
        (try dsimp only at hSw)
        go_simp
        try with_reducible rfl
      simp only [Act.put, List.getElem_toArray, List.getElem_cons_zero, List.getElem_cons_succ, List.setIfInBounds_toArray, List.set_cons_zero, List.set_cons_succ]
      refine wpAnyH_take (i := 7) (v := undef) rfl (by kernel_rfl) (by kernel_rfl) (by kernel_rfl) (fun _ _ _ h => h) (Or.inr ⟨by rfl, rfl⟩) (by assumption) ?_
      simp only [Act.put, List.getElem_toArray, List.getElem_cons_zero, List.getElem_cons_succ, List.setIfInBounds_toArray, List.set_cons_zero, List.set_cons_succ]
      refine wpAnyH_take (i := 8) (v := undef) rfl (by kernel_rfl) (by kernel_rfl) (by kernel_rfl) (fun _ _ _ h => h) (Or.inr ⟨by rfl, rfl⟩) (by assumption) ?_
      simp only [Act.put, List.getElem_toArray, List.getElem_cons_zero, List.getElem_cons_succ, List.setIfInBounds_toArray, List.set_cons_zero, List.set_cons_succ]
      refine wpAnyH_take (i := 9) (v := undef) rfl (by kernel_rfl) (by kernel_rfl) (by kernel_rfl) (fun _ _ _ h => h) (Or.inr ⟨by rfl, rfl⟩) (by assumption) ?_
      simp only [Act.put, List.getElem_toArray, List.getElem_cons_zero, List.getElem_cons_succ, List.setIfInBounds_toArray, List.set_cons_zero, List.set_cons_succ]
      refine wpAnyH_take (i := 10) (v := ?_) rfl (by kernel_rfl) (by kernel_rfl) (by kernel_rfl) (fun _ _ _ h => h) (Or.inl ⟨by rfl, ?_⟩) (by assumption) ?_
      rotate_left
      · intro w0 hSw
        (try dsimp only at hSw)
        go_simp
        try with_reducible rfl
      simp only [Act.put, List.getElem_toArray, List.getElem_cons_zero, List.getElem_cons_succ, List.setIfInBounds_toArray, List.set_cons_zero, List.set_cons_succ]
      refine wpAnyH_take (i := 11) (v := ?_) rfl (by kernel_rfl) (by kernel_rfl) (by kernel_rfl) (fun _ _ _ h => h) (Or.inl ⟨by rfl, ?_⟩) (by assumption) ?_
      rotate_left
      · intro w0 hSw
        (try dsimp only at hSw)
        go_simp
        try with_reducible rfl
      simp only [Act.put, List.getElem_toArray, List.getElem_cons_zero, List.getElem_cons_succ, List.setIfInBounds_toArray, List.set_cons_zero, List.set_cons_succ]
      refine wpAnyH_take (i := 12) (v := ?_) rfl (by kernel_rfl) (by kernel_rfl) (by kernel_rfl) (fun _ _ _ h => h) (Or.inl ⟨by rfl, ?_⟩) (by assumption) ?_
      rotate_left
      · intro w0 hSw
        (try dsimp only at hSw)
        go_simp
        try with_reducible rfl
      simp only [Act.put, List.getElem_toArray, List.getElem_cons_zero, List.getElem_cons_succ, List.setIfInBounds_toArray, List.set_cons_zero, List.set_cons_succ]
      refine wpAnyH_take (i := 13) (v := ?_) rfl (by kernel_rfl) (by kernel_rfl) (by kernel_rfl) (fun _ _ _ h => h) (Or.inl ⟨by rfl, ?_⟩) (by assumption) ?_
      rotate_left
      · intro w0 hSw
        (try dsimp only at hSw)
        go_simp
        try with_reducible rfl
      simp only [Act.put, List.getElem_toArray, List.getElem_cons_zero, List.getElem_cons_succ, List.setIfInBounds_toArray, List.set_cons_zero, List.set_cons_succ]
      refine wpAnyH_take (i := 14) (v := ?_) rfl (by kernel_rfl) (by kernel_rfl) (by kernel_rfl) (fun _ _ _ h => h) (Or.inl ⟨by rfl, ?_⟩) (by assumption) ?_
      rotate_left
      · intro w0 hSw
        (try dsimp only at hSw)
        go_simp
        try with_reducible rfl
      simp only [Act.put, List.getElem_toArray, List.getElem_cons_zero, List.getElem_cons_succ, List.setIfInBounds_toArray, List.set_cons_zero, List.set_cons_succ]
      refine wpAnyH_take (i := 15) (v := ?_) rfl (by kernel_rfl) (by kernel_rfl) (by kernel_rfl) (fun _ _ _ h => h) (Or.inl ⟨by rfl, ?_⟩) (by assumption) ?_
      rotate_left
      · intro w0 hSw
        (try dsimp only at hSw)
        go_simp
        try with_reducible rfl
      simp only [Act.put, List.getElem_toArray, List.getElem_cons_zero, List.getElem_cons_succ, List.setIfInBounds_toArray, List.set_cons_zero, List.set_cons_succ]
      refine wpAnyH_take (i := 16) (v := ?_) rfl (by kernel_rfl) (by kernel_rfl) (by kernel_rfl) (fun _ _ _ h => h) (Or.inl ⟨by rfl, ?_⟩) (by assumption) ?_
      rotate_left
      · intro w0 hSw
        (try dsimp only at hSw)
        go_simp
        try with_reducible rfl
      simp only [Act.put, List.getElem_toArray, List.getElem_cons_zero, List.getElem_cons_succ, List.setIfInBounds_toArray, List.set_cons_zero, List.set_cons_succ]
      refine wpAnyH_take (i := 17) (v := ?_) rfl (by kernel_rfl) (by kernel_rfl) (by kernel_rfl) (fun _ _ _ h => h) (Or.inl ⟨by rfl, ?_⟩) (by assumption) ?_
      rotate_left
      · intro w0 hSw
        (try dsimp only at hSw)
        go_simp
        try with_reducible rfl
      simp only [Act.put, List.getElem_toArray, List.getElem_cons_zero, List.getElem_cons_succ, List.setIfInBounds_toArray, List.set_cons_zero, List.set_cons_succ]
      refine wpAnyH_take (i := 18) (v := ?_) rfl (by kernel_rfl) (by kernel_rfl) (by kernel_rfl) (fun _ _ _ h => h) (Or.inl ⟨by rfl, ?_⟩) (by assumption) ?_
      rotate_left
      · intro w0 hSw
        (try dsimp only at hSw)
        go_simp
        try with_reducible rfl
      simp only [Act.put, List.getElem_toArray, List.getElem_cons_zero, List.getElem_cons_succ, List.setIfInBounds_toArray, List.set_cons_zero, List.set_cons_succ]
      refine wpAnyH_take (i := 19) (v := ?_) rfl (by kernel_rfl) (by kernel_rfl) (by kernel_rfl) (fun _ _ _ h => h) (Or.inl ⟨by rfl, ?_⟩) (by assumption) ?_
      rotate_left
      · intro w0 hSw
        (try dsimp only at hSw)
        go_simp
        try with_reducible rfl
      simp only [Act.put, List.getElem_toArray, List.getElem_cons_zero, List.getElem_cons_succ, List.setIfInBounds_toArray, List.set_cons_zero, List.set_cons_succ]
      refine wpAnyH_take (i := 20) (v := ?_) rfl (by kernel_rfl) (by kernel_rfl) (by kernel_rfl) (fun _ _ _ h => h) (Or.inl ⟨by rfl, ?_⟩) (by assumption) ?_
      rotate_left
      · intro w0 hSw
        (try dsimp only at hSw)
        go_simp
        try with_reducible rfl
      simp only [Act.put, List.getElem_toArray, List.getElem_cons_zero, List.getElem_cons_succ, List.setIfInBounds_toArray, List.set_cons_zero, List.set_cons_succ]
      refine wpAnyH_take (i := 21) (v := ?_) rfl (by kernel_rfl) (by kernel_rfl) (by kernel_rfl) (fun _ _ _ h => h) (Or.inl ⟨by rfl, ?_⟩) (by assumption) ?_
      rotate_left
      · intro w0 hSw
        (try dsimp only at hSw)
        go_simp
        try with_reducible rfl
      simp only [Act.put, List.getElem_toArray, List.getElem_cons_zero, List.getElem_cons_succ, List.setIfInBounds_toArray, List.set_cons_zero, List.set_cons_succ]
      refine wpAnyH_take (i := 22) (v := ?_) rfl (by kernel_rfl) (by kernel_rfl) (by kernel_rfl) (fun _ _ _ h => h) (Or.inl ⟨by rfl, ?_⟩) (by assumption) ?_
      rotate_left
      · intro w0 hSw
        (try dsimp only at hSw)
        go_simp
        try with_reducible rfl
      simp only [Act.put, List.getElem_toArray, List.getElem_cons_zero, List.getElem_cons_succ, List.setIfInBounds_toArray, List.set_cons_zero, List.set_cons_succ]
      refine wpAnyH_take (i := 23) (v := ?_) rfl (by kernel_rfl) (by kernel_rfl) (by kernel_rfl) (fun _ _ _ h => h) (Or.inl ⟨by rfl, ?_⟩) (by assumption) ?_
      rotate_left
      · intro w0 hSw
        (try dsimp only at hSw)
        go_simp
        try with_reducible rfl
      simp only [Act.put, List.getElem_toArray, List.getElem_cons_zero, List.getElem_cons_succ, List.setIfInBounds_toArray, List.set_cons_zero, List.set_cons_succ]
      refine wpAnyH_take (i := 24) (v := ?_) rfl (by kernel_rfl) (by kernel_rfl) (by kernel_rfl) (fun _ _ _ h => h) (Or.inl ⟨by rfl, ?_⟩) (by assumption) ?_
      rotate_left
      · intro w0 hSw
        (try dsimp only at hSw)
        go_simp
        try with_reducible rfl
      simp only [Act.put, List.getElem_toArray, List.getElem_cons_zero, List.getElem_cons_succ, List.setIfInBounds_toArray, List.set_cons_zero, List.set_cons_succ]
      refine wpAnyH_take (i := 25) (v := ?_) rfl (by kernel_rfl) (by kernel_rfl) (by kernel_rfl) (fun _ _ _ h => h) (Or.inl ⟨by rfl, ?_⟩) (by assumption) ?_
      rotate_left
      · intro w0 hSw
        (try dsimp only at hSw)
        go_simp
        try with_reducible rfl
      simp only [Act.put, List.getElem_toArray, List.getElem_cons_zero, List.getElem_cons_succ, List.setIfInBounds_toArray, List.set_cons_zero, List.set_cons_succ]
      refine wpAnyH_done (by kernel_rfl) ?_ _
      have B5 : Below w.heap.size w w5 := (Below.drew B4).trans (b5.mono (by have := B4.size; simpa using this))
      clear hHeld
      have z5s : w.heap.size < w5.heap.size := by simp at z5; omega
      have z5a : w2.heap.size < w5.heap.size := by simp at z5; omega
      rcases ho : coOk k st se er co cl with _ | _
      · go_wp2_with fail
        refine (refRight_any k st se er co cl _).mono ?_
        rintro r w6 ⟨rfl, b6⟩
        have B6 : Below w.heap.size w w6 := B5.trans (b6.mono (by omega))
        rw [ho]
        go_wp2
        go_ret
        exact ⟨rfl, B6⟩
      · have ho2 := HR.out ho
        go_wp2_with fail
        refine (refRight_any k st se er co cl _).mono ?_
        rintro r w6 ⟨rfl, b6⟩
        have z6 := b6.size
        have B6 : Below w.heap.size w w6 := B5.trans (b6.mono (by omega))
        have he2 := fun o => b6.cell (p := ⟨w2.heap.size, o, none⟩) (by simp; try omega)
        rw [ho]
        go_wp2_with fail
        refine (refRight_any (anK e) st se (anE e) co cl _).mono ?_
        rintro r w7 ⟨rfl, b7⟩
        have B7 : Below w.heap.size w w7 := B6.trans (b7.mono (by omega))
        rw [ho2]
        go_wp2
        go_ret
        exact ⟨rfl, B7⟩
end Go.Proofs.Ytkbjbpaeoopkfaa
