/- Contract of sched.copied. Conditions: the bytes are fewer than 2^46. -/
import Derived.Test.YtpicplkbblmbeaaGreatSf
namespace Go.Proofs.YtpicplkbblmbeaaGreat
set_option maxRecDepth 100000
open Go.RowKit
set_option linter.unusedVariables false
set_option linter.unusedSimpArgs false
def evV (pk pa pn : Int) (c : AA) (s : Value) (x : AN) (t : Value) : Value := .agg #[.int .i64 pk, .int .i64 pa, .int .i64 pn, .int .i64 c.k, .int .i64 c.a, .int .i64 c.n, .int .u64 c.v, .int .u64 c.x, s, .int .u64 x.v, .bool x.d, t]
theorem Blk.c12 {w : World} {b : Nat} {y0 y1 y2 y3 y4 y5 y6 y7 y8 y9 y10 y11 : Value} (h : Blk w b [y0, y1, y2, y3, y4, y5, y6, y7, y8, y9, y10, y11]) : w.cell? ⟨b, 0, none⟩ = some y0 ∧ w.cell? ⟨b, 1, none⟩ = some y1 ∧ w.cell? ⟨b, 2, none⟩ = some y2 ∧ w.cell? ⟨b, 3, none⟩ = some y3 ∧ w.cell? ⟨b, 4, none⟩ = some y4 ∧ w.cell? ⟨b, 5, none⟩ = some y5 ∧ w.cell? ⟨b, 6, none⟩ = some y6 ∧ w.cell? ⟨b, 7, none⟩ = some y7 ∧ w.cell? ⟨b, 8, none⟩ = some y8 ∧ w.cell? ⟨b, 9, none⟩ = some y9 ∧ w.cell? ⟨b, 10, none⟩ = some y10 ∧ w.cell? ⟨b, 11, none⟩ = some y11 :=
  ⟨h.cell 0, h.cell 1, h.cell 2, h.cell 3, h.cell 4, h.cell 5, h.cell 6, h.cell 7, h.cell 8, h.cell 9, h.cell 10, h.cell 11⟩
theorem Blk.f12 {w : World} {b : Nat} {cs : List Value} (h : Blk w b cs) : w.frozen? ⟨b, 0, none⟩ = false ∧ w.frozen? ⟨b, 1, none⟩ = false ∧ w.frozen? ⟨b, 2, none⟩ = false ∧ w.frozen? ⟨b, 3, none⟩ = false ∧ w.frozen? ⟨b, 4, none⟩ = false ∧ w.frozen? ⟨b, 5, none⟩ = false ∧ w.frozen? ⟨b, 6, none⟩ = false ∧ w.frozen? ⟨b, 7, none⟩ = false ∧ w.frozen? ⟨b, 8, none⟩ = false ∧ w.frozen? ⟨b, 9, none⟩ = false ∧ w.frozen? ⟨b, 10, none⟩ = false ∧ w.frozen? ⟨b, 11, none⟩ = false :=
  ⟨h.frozen 0, h.frozen 1, h.frozen 2, h.frozen 3, h.frozen 4, h.frozen 5, h.frozen 6, h.frozen 7, h.frozen 8, h.frozen 9, h.frozen 10, h.frozen 11⟩
theorem results_cell1g {fn : Func} {p : Tmp} {ty : TypeId} (h : fn.results = #[.cell p ty]) (tmps : Array Value) (P : Program) (w : World) :
    (results fn tmps).run P w = ((asAddr (tmps.getD p undef)).run P w).andThen fun a w₁ => (loadVar ty a).run P w₁ := by
  simp only [results, h]
  simp [Sem.run_bind, Result.andThen]
theorem res_ev {fn : Func} {tmps : Array Value} {W : World} {p q : Nat} {pk pa pn : Int} {c : AA} {s0 t0 : Option Addr} {sl sc tl tc : Nat} {x : AN} (hf : fn.results = #[.cell p 64]) (hp : tmps.getD p undef = .pointer (some ⟨q, 0, none⟩))
    (h : Blk W q (evC pk pa pn c (.slice s0 sl sc) x (.slice t0 tl tc))) : (results fn tmps).run Tryz.prog W = .ok (evV pk pa pn c (.slice s0 sl sc) x (.slice t0 tl tc)) W := by
  unfold evC at h
  obtain ⟨c0, c1, c2, c3, c4, c5, c6, c7, c8, c9, c10, c11⟩ := h.c12
  clear h
  rw [results_cell1g hf, hp]
  go_simp
  rfl
set_option maxHeartbeats 1000000 in
theorem wCopied_any (pk pa pn : Int) (c : AA) (s0 : Option Addr) (sl sc : Nat) (x : AN) (t0 : Option Addr) (tl tc : Nat) (w : World) (h1 : RdB w (.slice s0 sl sc) c.b) (h2 : RdB w (.slice t0 tl tc) x.b) (hl1 : c.b.length ≤ 70368744177664) (hl2 : x.b.length ≤ 70368744177664) :
    Calls Tryz.prog 91 #[evV pk pa pn c (.slice s0 sl sc) x (.slice t0 tl tc)] w fun e w' => ∃ m0 ml mc n0 nl nc, e = .returned (evV pk pa pn c (.slice m0 ml mc) x (.slice n0 nl nc)) ∧ OwB 5 w.heap.size w' (.slice m0 ml mc) c.b ∧ OwB 5 w.heap.size w' (.slice n0 nl nc) x.b ∧ Below w.heap.size w w' := by
  have H1 := Lib.hid h1
  have H2 := Lib.hid h2
  clear h1 h2
  unfold evV
  go_enter Tryz.func91, Tryz.ntmps91
  go_upto_region 1 with fail
  obtain ⟨w1, hw1⟩ : ∃ w1, w1 = ((w.alloc (Obj.cells #[.int .i64 pk, .int .i64 pa, .int .i64 pn, .int .i64 c.k, .int .i64 c.a, .int .i64 c.n, .int .u64 c.v, .int .u64 c.x, .slice s0 sl sc, .int .u64 x.v, .bool x.d, .slice t0 tl tc] 64)).alloc (Obj.cells #[.int .i64 0, .int .i64 0, .int .i64 0, .int .i64 0, .int .i64 0, .int .i64 0, .int .u64 0, .int .u64 0, .slice none 0 0, .int .u64 0, .bool false, .slice none 0 0] 64)) := ⟨_, rfl⟩
  have A1 : Blk w1 w.heap.size [.int .i64 pk, .int .i64 pa, .int .i64 pn, .int .i64 c.k, .int .i64 c.a, .int .i64 c.n, .int .u64 c.v, .int .u64 c.x, .slice s0 sl sc, .int .u64 x.v, .bool x.d, .slice t0 tl tc] := by rw [hw1]; exact Blk.alloc (Blk.made w _ _) _
  have R1 : Blk w1 (w.heap.size + 1) [.int .i64 0, .int .i64 0, .int .i64 0, .int .i64 0, .int .i64 0, .int .i64 0, .int .u64 0, .int .u64 0, .slice none 0 0, .int .u64 0, .bool false, .slice none 0 0] := by rw [hw1]; simpa using Blk.made (w.alloc (Obj.cells #[.int .i64 pk, .int .i64 pa, .int .i64 pn, .int .i64 c.k, .int .i64 c.a, .int .i64 c.n, .int .u64 c.v, .int .u64 c.x, .slice s0 sl sc, .int .u64 x.v, .bool x.d, .slice t0 tl tc] 64)) #[.int .i64 0, .int .i64 0, .int .i64 0, .int .i64 0, .int .i64 0, .int .i64 0, .int .u64 0, .int .u64 0, .slice none 0 0, .int .u64 0, .bool false, .slice none 0 0] 64
  have B1 : Below w.heap.size w w1 := by rw [hw1]; go_grown
  have z1 : w1.heap.size = w.heap.size + 2 := by rw [hw1]; simp
  rw [← hw1]
  clear hw1
  have HA := Lib.hid A1
  have HR := Lib.hid R1
  have HB := Lib.hid B1
  have R8 : w1.cell? ⟨w.heap.size, 8, none⟩ = some (.slice s0 sl sc) := A1.cell 8
  have R11 : w1.cell? ⟨w.heap.size, 11, none⟩ = some (.slice t0 tl tc) := A1.cell 11
  have S1 := Lib.hid (H1.out.below B1)
  have S2 := Lib.hid (H2.out.below B1)
  clear A1 R1 B1
  have y0 : w.heap.size < w1.heap.size := by omega
  have y1 : w.heap.size + 1 < w1.heap.size := by omega
  go_cut [] from 3 to 14 (fun wx => ∃ m0 ml mc n0 nl nc, Blk wx w.heap.size [.int .i64 pk, .int .i64 pa, .int .i64 pn, .int .i64 c.k, .int .i64 c.a, .int .i64 c.n, .int .u64 c.v, .int .u64 c.x, .slice m0 ml mc, .int .u64 x.v, .bool x.d, .slice n0 nl nc] ∧ Blk wx (w.heap.size + 1) [.int .i64 0, .int .i64 0, .int .i64 0, .int .i64 0, .int .i64 0, .int .i64 0, .int .u64 0, .int .u64 0, .slice none 0 0, .int .u64 0, .bool false, .slice none 0 0] ∧ OwB 5 (w.heap.size + 2) wx (.slice m0 ml mc) c.b ∧ OwB 5 (w.heap.size + 2) wx (.slice n0 nl nc) x.b ∧ Below w.heap.size w wx)
  case first =>
    refine wp_region_held_drew (S := fun _ => True) (by kernel_rfl) ?_ (fun hHeld => ?_)
    · try dsimp only
      all_goals trivial
    refine wpAnyH_take (i := 0) (v := ?_) rfl (by kernel_rfl) (by kernel_rfl) (by kernel_rfl) (fun _ _ _ h => h) (Or.inl ⟨by rfl, ?_⟩) (by assumption) ?_
    rotate_left
    · intro w0 hSw
      (try dsimp only at hSw)
      go_simp
      try with_reducible rfl
    try simp only [Act.put, List.getElem_toArray, List.getElem_cons_zero, List.getElem_cons_succ, List.setIfInBounds_toArray, List.set_cons_zero, List.set_cons_succ]
    refine wpAnyH_take (i := 1) (v := ?_) rfl (by kernel_rfl) (by kernel_rfl) (by kernel_rfl) (fun _ _ _ h => h) (Or.inl ⟨by rfl, ?_⟩) (by assumption) ?_
    rotate_left
    · intro w0 hSw
      (try dsimp only at hSw)
      go_simp
      try with_reducible rfl
    try simp only [Act.put, List.getElem_toArray, List.getElem_cons_zero, List.getElem_cons_succ, List.setIfInBounds_toArray, List.set_cons_zero, List.set_cons_succ]
    refine wpAnyH_take (i := 4) (v := ?_) rfl (by kernel_rfl) (by kernel_rfl) (by kernel_rfl) (fun _ _ _ h => h) (Or.inl ⟨by rfl, ?_⟩) (by assumption) ?_
    rotate_left
    · intro w0 hSw
      (try dsimp only at hSw)
      go_simp
      try with_reducible rfl
    try simp only [Act.put, List.getElem_toArray, List.getElem_cons_zero, List.getElem_cons_succ, List.setIfInBounds_toArray, List.set_cons_zero, List.set_cons_succ]
    refine wpAnyH_take (i := 5) (v := ?_) rfl (by kernel_rfl) (by kernel_rfl) (by kernel_rfl) (fun _ _ _ h => h) (Or.inl ⟨by rfl, ?_⟩) (by assumption) ?_
    rotate_left
    · intro w0 hSw
      (try dsimp only at hSw)
      go_simp
      try with_reducible rfl
    try simp only [Act.put, List.getElem_toArray, List.getElem_cons_zero, List.getElem_cons_succ, List.setIfInBounds_toArray, List.set_cons_zero, List.set_cons_succ]
    refine wpAnyH_ready (rs := [2, 6]) (by kernel_rfl) (by simp) ?_
    refine AllReadyH.cons rfl (fun K hK => ?_) (AllReadyH.cons rfl (fun K hK => ?_) AllReadyH.nil)
    · go_simp
      refine hK.out _ _ ?_ (fun hHeld => ?_)
      · try dsimp only
        all_goals trivial
      clear hK K
      try simp only [Act.put, List.getElem_toArray, List.getElem_cons_zero, List.getElem_cons_succ, List.setIfInBounds_toArray, List.set_cons_zero, List.set_cons_succ]
      refine wpAnyH_ready (rs := [3, 6]) (by kernel_rfl) (by simp) ?_
      refine AllReadyH.cons rfl (fun K hK => ?_) (AllReadyH.cons rfl (fun K hK => ?_) AllReadyH.nil)
      · go_simp
        refine (clone_any _ c.b _ (S1.out.keep (Keep.drew (Keep.refl (fun _ => False) _)) (fun _ _ _ => id)) hl1).mono ?_
        rintro e w2 ⟨u2, rfl, o2, b2⟩
        obtain ⟨m0, ml, mc, rfl⟩ := o2.isSliceC
        have B12 : Below w1.heap.size w1 w2 := bel_drew0 b2
        have z2 : w1.heap.size ≤ w2.heap.size := B12.size
        have R11b : w2.cell? ⟨w.heap.size, 11, none⟩ = some (.slice t0 tl tc) := (B12.cell (p := ⟨w.heap.size, 11, none⟩) y0).trans R11
        have O2 := Lib.hid (OwB.mono o2 (show w1.heap.size ≤ _ from Nat.le_refl _))
        clear b2 o2
        go_wp2_with fail
        refine hK.out _ _ ?_ (fun hHeld => ?_)
        · try dsimp only
          all_goals trivial
        clear hK K
        try simp only [Act.put, List.getElem_toArray, List.getElem_cons_zero, List.getElem_cons_succ, List.setIfInBounds_toArray, List.set_cons_zero, List.set_cons_succ]
        refine wpAnyH_ready (rs := [6]) (by kernel_rfl) (by simp) ?_
        refine AllReadyH.cons rfl (fun K hK => ?_) AllReadyH.nil
        go_simp
        refine hK.out _ _ ?_ (fun hHeld => ?_)
        · try dsimp only
          all_goals trivial
        clear hK K
        try simp only [Act.put, List.getElem_toArray, List.getElem_cons_zero, List.getElem_cons_succ, List.setIfInBounds_toArray, List.set_cons_zero, List.set_cons_succ]
        refine wpAnyH_take (i := 8) (v := ?_) rfl (by kernel_rfl) (by kernel_rfl) (by kernel_rfl) (fun _ _ _ h => h) (Or.inl ⟨by rfl, ?_⟩) (by assumption) ?_
        rotate_left
        · intro w0 hSw
          (try dsimp only at hSw)
          go_simp
          try with_reducible rfl
        try simp only [Act.put, List.getElem_toArray, List.getElem_cons_zero, List.getElem_cons_succ, List.setIfInBounds_toArray, List.set_cons_zero, List.set_cons_succ]
        refine wpAnyH_take (i := 9) (v := ?_) rfl (by kernel_rfl) (by kernel_rfl) (by kernel_rfl) (fun _ _ _ h => h) (Or.inl ⟨by rfl, ?_⟩) (by assumption) ?_
        rotate_left
        · intro w0 hSw
          (try dsimp only at hSw)
          go_simp
          try with_reducible rfl
        try simp only [Act.put, List.getElem_toArray, List.getElem_cons_zero, List.getElem_cons_succ, List.setIfInBounds_toArray, List.set_cons_zero, List.set_cons_succ]
        refine wpAnyH_ready (rs := [7]) (by kernel_rfl) (by simp) ?_
        refine AllReadyH.cons rfl (fun K hK => ?_) AllReadyH.nil
        go_simp
        refine (clone_any _ x.b _ (S2.out.below B12) hl2).mono ?_
        rintro e w3 ⟨u3, rfl, o3, b3⟩
        obtain ⟨n0, nl, nc, rfl⟩ := o3.isSliceC
        have z3 := b3.size
        have A3 := Lib.hid ((HA.out.below B12 y0).below b3 (by omega))
        have f8 := A3.out.frozen 8
        have f11 := A3.out.frozen 11
        have e8 := A3.out.cell 8
        have e11 := A3.out.cell 11
        simp only [List.getElem?_cons_zero, List.getElem?_cons_succ] at e8 e11
        have y3 : w.heap.size < w3.heap.size := by omega
        have O2b := Lib.hid (O2.out.below b3)
        have O3 := Lib.hid o3
        have R3 := Lib.hid ((HR.out.below B12 y1).below b3 (by omega))
        have B3 := Lib.hid ((HB.out.trans (B12.mono (by omega))).trans (b3.mono (by omega)))
        clear o3 b3 B12 R11b R8 R11 hHeld
        go_wp2_with fail
        refine hK.out _ _ ?_ (fun hHeld => ?_)
        · try dsimp only
          all_goals trivial
        clear hK K
        try simp only [Act.put, List.getElem_toArray, List.getElem_cons_zero, List.getElem_cons_succ, List.setIfInBounds_toArray, List.set_cons_zero, List.set_cons_succ]
        refine wpAnyH_ready (rs := [10]) (by kernel_rfl) (by simp) ?_
        refine AllReadyH.cons rfl (fun K hK => ?_) AllReadyH.nil
        go_simp
        refine hK.out _ _ ?_ (fun hHeld => ?_)
        · try dsimp only
          all_goals trivial
        clear hK K
        try simp only [Act.put, List.getElem_toArray, List.getElem_cons_zero, List.getElem_cons_succ, List.setIfInBounds_toArray, List.set_cons_zero, List.set_cons_succ]
        refine wpAnyH_take (i := 11) (v := ?_) rfl (by kernel_rfl) (by kernel_rfl) (by kernel_rfl) (fun _ _ _ h => h) (Or.inl ⟨by rfl, ?_⟩) (by assumption) ?_
        rotate_left
        · intro w0 hSw
          (try dsimp only at hSw)
          go_simp
          try with_reducible rfl
        try simp only [Act.put, List.getElem_toArray, List.getElem_cons_zero, List.getElem_cons_succ, List.setIfInBounds_toArray, List.set_cons_zero, List.set_cons_succ]
        refine wpAnyH_take (i := 12) (v := ?_) rfl (by kernel_rfl) (by kernel_rfl) (by kernel_rfl) (fun _ _ _ h => h) (Or.inl ⟨by rfl, ?_⟩) (by assumption) ?_
        rotate_left
        · intro w0 hSw
          (try dsimp only at hSw)
          go_simp
          try with_reducible rfl
        try simp only [Act.put, List.getElem_toArray, List.getElem_cons_zero, List.getElem_cons_succ, List.setIfInBounds_toArray, List.set_cons_zero, List.set_cons_succ]
        refine wpAnyH_ready (rs := [13]) (by kernel_rfl) (by simp) ?_
        refine AllReadyH.cons rfl (fun K hK => ?_) AllReadyH.nil
        go_simp
        refine hK.out _ _ ?_ (fun hHeld => ?_)
        · try dsimp only
          all_goals trivial
        clear hK K
        try simp only [Act.put, List.getElem_toArray, List.getElem_cons_zero, List.getElem_cons_succ, List.setIfInBounds_toArray, List.set_cons_zero, List.set_cons_succ]
        refine wpAnyH_done (by kernel_rfl) ?_ _
        go_wp2_with fail
        go_meet
        refine ⟨m0, ml, mc, n0, nl, nc, (A3.out.set 8 _).set 11 _, Blk.far (Blk.far R3.out (a := ⟨w.heap.size, 8, none⟩) (Nat.succ_ne_self _) _) (a := ⟨w.heap.size, 11, none⟩) (Nat.succ_ne_self _) _, ?_, ?_, (B3.out.setCell (p := ⟨w.heap.size, 8, none⟩) (Nat.le_refl _) _).setCell (p := ⟨w.heap.size, 11, none⟩) (Nat.le_refl _) _⟩
        · exact OwB.farC (OwB.farC (OwB.mono O2b.out (by omega)) (a := ⟨w.heap.size, 8, none⟩) (show w.heap.size < w.heap.size + 2 by omega) _) (a := ⟨w.heap.size, 11, none⟩) (show w.heap.size < w.heap.size + 2 by omega) _
        · exact OwB.farC (OwB.farC (OwB.mono O3.out (by omega)) (a := ⟨w.heap.size, 8, none⟩) (show w.heap.size < w.heap.size + 2 by omega) _) (a := ⟨w.heap.size, 11, none⟩) (show w.heap.size < w.heap.size + 2 by omega) _
      · go_simp
        refine hK.out _ _ ?_ (fun hHeld => ?_)
        · try dsimp only
          all_goals trivial
        clear hK K
        try simp only [Act.put, List.getElem_toArray, List.getElem_cons_zero, List.getElem_cons_succ, List.setIfInBounds_toArray, List.set_cons_zero, List.set_cons_succ]
        refine wpAnyH_ready (rs := [3]) (by kernel_rfl) (by simp) ?_
        refine AllReadyH.cons rfl (fun K hK => ?_) AllReadyH.nil
        go_simp
        refine (clone_any _ c.b _ (S1.out.keep (Keep.drew (Keep.refl (fun _ => False) _)) (fun _ _ _ => id)) hl1).mono ?_
        rintro e w2 ⟨u2, rfl, o2, b2⟩
        obtain ⟨m0, ml, mc, rfl⟩ := o2.isSliceC
        have B12 : Below w1.heap.size w1 w2 := bel_drew0 b2
        have z2 : w1.heap.size ≤ w2.heap.size := B12.size
        have R11b : w2.cell? ⟨w.heap.size, 11, none⟩ = some (.slice t0 tl tc) := (B12.cell (p := ⟨w.heap.size, 11, none⟩) y0).trans R11
        have O2 := Lib.hid (OwB.mono o2 (show w1.heap.size ≤ _ from Nat.le_refl _))
        clear b2 o2
        go_wp2_with fail
        refine hK.out _ _ ?_ (fun hHeld => ?_)
        · try dsimp only
          all_goals trivial
        clear hK K
        try simp only [Act.put, List.getElem_toArray, List.getElem_cons_zero, List.getElem_cons_succ, List.setIfInBounds_toArray, List.set_cons_zero, List.set_cons_succ]
        refine wpAnyH_take (i := 8) (v := ?_) rfl (by kernel_rfl) (by kernel_rfl) (by kernel_rfl) (fun _ _ _ h => h) (Or.inl ⟨by rfl, ?_⟩) (by assumption) ?_
        rotate_left
        · intro w0 hSw
          (try dsimp only at hSw)
          go_simp
          try with_reducible rfl
        try simp only [Act.put, List.getElem_toArray, List.getElem_cons_zero, List.getElem_cons_succ, List.setIfInBounds_toArray, List.set_cons_zero, List.set_cons_succ]
        refine wpAnyH_take (i := 9) (v := ?_) rfl (by kernel_rfl) (by kernel_rfl) (by kernel_rfl) (fun _ _ _ h => h) (Or.inl ⟨by rfl, ?_⟩) (by assumption) ?_
        rotate_left
        · intro w0 hSw
          (try dsimp only at hSw)
          go_simp
          try with_reducible rfl
        try simp only [Act.put, List.getElem_toArray, List.getElem_cons_zero, List.getElem_cons_succ, List.setIfInBounds_toArray, List.set_cons_zero, List.set_cons_succ]
        refine wpAnyH_ready (rs := [7]) (by kernel_rfl) (by simp) ?_
        refine AllReadyH.cons rfl (fun K hK => ?_) AllReadyH.nil
        go_simp
        refine (clone_any _ x.b _ (S2.out.below B12) hl2).mono ?_
        rintro e w3 ⟨u3, rfl, o3, b3⟩
        obtain ⟨n0, nl, nc, rfl⟩ := o3.isSliceC
        have z3 := b3.size
        have A3 := Lib.hid ((HA.out.below B12 y0).below b3 (by omega))
        have f8 := A3.out.frozen 8
        have f11 := A3.out.frozen 11
        have e8 := A3.out.cell 8
        have e11 := A3.out.cell 11
        simp only [List.getElem?_cons_zero, List.getElem?_cons_succ] at e8 e11
        have y3 : w.heap.size < w3.heap.size := by omega
        have O2b := Lib.hid (O2.out.below b3)
        have O3 := Lib.hid o3
        have R3 := Lib.hid ((HR.out.below B12 y1).below b3 (by omega))
        have B3 := Lib.hid ((HB.out.trans (B12.mono (by omega))).trans (b3.mono (by omega)))
        clear o3 b3 B12 R11b R8 R11 hHeld
        go_wp2_with fail
        refine hK.out _ _ ?_ (fun hHeld => ?_)
        · try dsimp only
          all_goals trivial
        clear hK K
        try simp only [Act.put, List.getElem_toArray, List.getElem_cons_zero, List.getElem_cons_succ, List.setIfInBounds_toArray, List.set_cons_zero, List.set_cons_succ]
        refine wpAnyH_ready (rs := [10]) (by kernel_rfl) (by simp) ?_
        refine AllReadyH.cons rfl (fun K hK => ?_) AllReadyH.nil
        go_simp
        refine hK.out _ _ ?_ (fun hHeld => ?_)
        · try dsimp only
          all_goals trivial
        clear hK K
        try simp only [Act.put, List.getElem_toArray, List.getElem_cons_zero, List.getElem_cons_succ, List.setIfInBounds_toArray, List.set_cons_zero, List.set_cons_succ]
        refine wpAnyH_take (i := 11) (v := ?_) rfl (by kernel_rfl) (by kernel_rfl) (by kernel_rfl) (fun _ _ _ h => h) (Or.inl ⟨by rfl, ?_⟩) (by assumption) ?_
        rotate_left
        · intro w0 hSw
          (try dsimp only at hSw)
          go_simp
          try with_reducible rfl
        try simp only [Act.put, List.getElem_toArray, List.getElem_cons_zero, List.getElem_cons_succ, List.setIfInBounds_toArray, List.set_cons_zero, List.set_cons_succ]
        refine wpAnyH_take (i := 12) (v := ?_) rfl (by kernel_rfl) (by kernel_rfl) (by kernel_rfl) (fun _ _ _ h => h) (Or.inl ⟨by rfl, ?_⟩) (by assumption) ?_
        rotate_left
        · intro w0 hSw
          (try dsimp only at hSw)
          go_simp
          try with_reducible rfl
        try simp only [Act.put, List.getElem_toArray, List.getElem_cons_zero, List.getElem_cons_succ, List.setIfInBounds_toArray, List.set_cons_zero, List.set_cons_succ]
        refine wpAnyH_ready (rs := [13]) (by kernel_rfl) (by simp) ?_
        refine AllReadyH.cons rfl (fun K hK => ?_) AllReadyH.nil
        go_simp
        refine hK.out _ _ ?_ (fun hHeld => ?_)
        · try dsimp only
          all_goals trivial
        clear hK K
        try simp only [Act.put, List.getElem_toArray, List.getElem_cons_zero, List.getElem_cons_succ, List.setIfInBounds_toArray, List.set_cons_zero, List.set_cons_succ]
        refine wpAnyH_done (by kernel_rfl) ?_ _
        go_wp2_with fail
        go_meet
        refine ⟨m0, ml, mc, n0, nl, nc, (A3.out.set 8 _).set 11 _, Blk.far (Blk.far R3.out (a := ⟨w.heap.size, 8, none⟩) (Nat.succ_ne_self _) _) (a := ⟨w.heap.size, 11, none⟩) (Nat.succ_ne_self _) _, ?_, ?_, (B3.out.setCell (p := ⟨w.heap.size, 8, none⟩) (Nat.le_refl _) _).setCell (p := ⟨w.heap.size, 11, none⟩) (Nat.le_refl _) _⟩
        · exact OwB.farC (OwB.farC (OwB.mono O2b.out (by omega)) (a := ⟨w.heap.size, 8, none⟩) (show w.heap.size < w.heap.size + 2 by omega) _) (a := ⟨w.heap.size, 11, none⟩) (show w.heap.size < w.heap.size + 2 by omega) _
        · exact OwB.farC (OwB.farC (OwB.mono O3.out (by omega)) (a := ⟨w.heap.size, 8, none⟩) (show w.heap.size < w.heap.size + 2 by omega) _) (a := ⟨w.heap.size, 11, none⟩) (show w.heap.size < w.heap.size + 2 by omega) _
    · go_simp
      refine hK.out _ _ ?_ (fun hHeld => ?_)
      · try dsimp only
        all_goals trivial
      clear hK K
      try simp only [Act.put, List.getElem_toArray, List.getElem_cons_zero, List.getElem_cons_succ, List.setIfInBounds_toArray, List.set_cons_zero, List.set_cons_succ]
      refine wpAnyH_ready (rs := [2]) (by kernel_rfl) (by simp) ?_
      refine AllReadyH.cons rfl (fun K hK => ?_) AllReadyH.nil
      go_simp
      refine hK.out _ _ ?_ (fun hHeld => ?_)
      · try dsimp only
        all_goals trivial
      clear hK K
      try simp only [Act.put, List.getElem_toArray, List.getElem_cons_zero, List.getElem_cons_succ, List.setIfInBounds_toArray, List.set_cons_zero, List.set_cons_succ]
      refine wpAnyH_ready (rs := [3]) (by kernel_rfl) (by simp) ?_
      refine AllReadyH.cons rfl (fun K hK => ?_) AllReadyH.nil
      go_simp
      refine (clone_any _ c.b _ (S1.out.keep (Keep.drew (Keep.refl (fun _ => False) _)) (fun _ _ _ => id)) hl1).mono ?_
      rintro e w2 ⟨u2, rfl, o2, b2⟩
      obtain ⟨m0, ml, mc, rfl⟩ := o2.isSliceC
      have B12 : Below w1.heap.size w1 w2 := bel_drew0 b2
      have z2 : w1.heap.size ≤ w2.heap.size := B12.size
      have R11b : w2.cell? ⟨w.heap.size, 11, none⟩ = some (.slice t0 tl tc) := (B12.cell (p := ⟨w.heap.size, 11, none⟩) y0).trans R11
      have O2 := Lib.hid (OwB.mono o2 (show w1.heap.size ≤ _ from Nat.le_refl _))
      clear b2 o2
      go_wp2_with fail
      refine hK.out _ _ ?_ (fun hHeld => ?_)
      · try dsimp only
        all_goals trivial
      clear hK K
      try simp only [Act.put, List.getElem_toArray, List.getElem_cons_zero, List.getElem_cons_succ, List.setIfInBounds_toArray, List.set_cons_zero, List.set_cons_succ]
      refine wpAnyH_take (i := 8) (v := ?_) rfl (by kernel_rfl) (by kernel_rfl) (by kernel_rfl) (fun _ _ _ h => h) (Or.inl ⟨by rfl, ?_⟩) (by assumption) ?_
      rotate_left
      · intro w0 hSw
        (try dsimp only at hSw)
        go_simp
        try with_reducible rfl
      try simp only [Act.put, List.getElem_toArray, List.getElem_cons_zero, List.getElem_cons_succ, List.setIfInBounds_toArray, List.set_cons_zero, List.set_cons_succ]
      refine wpAnyH_take (i := 9) (v := ?_) rfl (by kernel_rfl) (by kernel_rfl) (by kernel_rfl) (fun _ _ _ h => h) (Or.inl ⟨by rfl, ?_⟩) (by assumption) ?_
      rotate_left
      · intro w0 hSw
        (try dsimp only at hSw)
        go_simp
        try with_reducible rfl
      try simp only [Act.put, List.getElem_toArray, List.getElem_cons_zero, List.getElem_cons_succ, List.setIfInBounds_toArray, List.set_cons_zero, List.set_cons_succ]
      refine wpAnyH_ready (rs := [7]) (by kernel_rfl) (by simp) ?_
      refine AllReadyH.cons rfl (fun K hK => ?_) AllReadyH.nil
      go_simp
      refine (clone_any _ x.b _ (S2.out.below B12) hl2).mono ?_
      rintro e w3 ⟨u3, rfl, o3, b3⟩
      obtain ⟨n0, nl, nc, rfl⟩ := o3.isSliceC
      have z3 := b3.size
      have A3 := Lib.hid ((HA.out.below B12 y0).below b3 (by omega))
      have f8 := A3.out.frozen 8
      have f11 := A3.out.frozen 11
      have e8 := A3.out.cell 8
      have e11 := A3.out.cell 11
      simp only [List.getElem?_cons_zero, List.getElem?_cons_succ] at e8 e11
      have y3 : w.heap.size < w3.heap.size := by omega
      have O2b := Lib.hid (O2.out.below b3)
      have O3 := Lib.hid o3
      have R3 := Lib.hid ((HR.out.below B12 y1).below b3 (by omega))
      have B3 := Lib.hid ((HB.out.trans (B12.mono (by omega))).trans (b3.mono (by omega)))
      clear o3 b3 B12 R11b R8 R11 hHeld
      go_wp2_with fail
      refine hK.out _ _ ?_ (fun hHeld => ?_)
      · try dsimp only
        all_goals trivial
      clear hK K
      try simp only [Act.put, List.getElem_toArray, List.getElem_cons_zero, List.getElem_cons_succ, List.setIfInBounds_toArray, List.set_cons_zero, List.set_cons_succ]
      refine wpAnyH_ready (rs := [10]) (by kernel_rfl) (by simp) ?_
      refine AllReadyH.cons rfl (fun K hK => ?_) AllReadyH.nil
      go_simp
      refine hK.out _ _ ?_ (fun hHeld => ?_)
      · try dsimp only
        all_goals trivial
      clear hK K
      try simp only [Act.put, List.getElem_toArray, List.getElem_cons_zero, List.getElem_cons_succ, List.setIfInBounds_toArray, List.set_cons_zero, List.set_cons_succ]
      refine wpAnyH_take (i := 11) (v := ?_) rfl (by kernel_rfl) (by kernel_rfl) (by kernel_rfl) (fun _ _ _ h => h) (Or.inl ⟨by rfl, ?_⟩) (by assumption) ?_
      rotate_left
      · intro w0 hSw
        (try dsimp only at hSw)
        go_simp
        try with_reducible rfl
      try simp only [Act.put, List.getElem_toArray, List.getElem_cons_zero, List.getElem_cons_succ, List.setIfInBounds_toArray, List.set_cons_zero, List.set_cons_succ]
      refine wpAnyH_take (i := 12) (v := ?_) rfl (by kernel_rfl) (by kernel_rfl) (by kernel_rfl) (fun _ _ _ h => h) (Or.inl ⟨by rfl, ?_⟩) (by assumption) ?_
      rotate_left
      · intro w0 hSw
        (try dsimp only at hSw)
        go_simp
        try with_reducible rfl
      try simp only [Act.put, List.getElem_toArray, List.getElem_cons_zero, List.getElem_cons_succ, List.setIfInBounds_toArray, List.set_cons_zero, List.set_cons_succ]
      refine wpAnyH_ready (rs := [13]) (by kernel_rfl) (by simp) ?_
      refine AllReadyH.cons rfl (fun K hK => ?_) AllReadyH.nil
      go_simp
      refine hK.out _ _ ?_ (fun hHeld => ?_)
      · try dsimp only
        all_goals trivial
      clear hK K
      try simp only [Act.put, List.getElem_toArray, List.getElem_cons_zero, List.getElem_cons_succ, List.setIfInBounds_toArray, List.set_cons_zero, List.set_cons_succ]
      refine wpAnyH_done (by kernel_rfl) ?_ _
      go_wp2_with fail
      go_meet
      refine ⟨m0, ml, mc, n0, nl, nc, (A3.out.set 8 _).set 11 _, Blk.far (Blk.far R3.out (a := ⟨w.heap.size, 8, none⟩) (Nat.succ_ne_self _) _) (a := ⟨w.heap.size, 11, none⟩) (Nat.succ_ne_self _) _, ?_, ?_, (B3.out.setCell (p := ⟨w.heap.size, 8, none⟩) (Nat.le_refl _) _).setCell (p := ⟨w.heap.size, 11, none⟩) (Nat.le_refl _) _⟩
      · exact OwB.farC (OwB.farC (OwB.mono O2b.out (by omega)) (a := ⟨w.heap.size, 8, none⟩) (show w.heap.size < w.heap.size + 2 by omega) _) (a := ⟨w.heap.size, 11, none⟩) (show w.heap.size < w.heap.size + 2 by omega) _
      · exact OwB.farC (OwB.farC (OwB.mono O3.out (by omega)) (a := ⟨w.heap.size, 8, none⟩) (show w.heap.size < w.heap.size + 2 by omega) _) (a := ⟨w.heap.size, 11, none⟩) (show w.heap.size < w.heap.size + 2 by omega) _
  case rest =>
    obtain ⟨m0, ml, mc, n0, nl, nc, a2, r2, o1, o2, b2⟩ := hcut
    obtain ⟨e0, e1, e2, e3, e4, e5, e6, e7, e8, e9, e10, e11⟩ := a2.c12
    obtain ⟨f0, f1, f2, f3, f4, f5, f6, f7, f8, f9, f10, f11⟩ := r2.f12
    obtain ⟨g0, g1, g2, g3, g4, g5, g6, g7, g8, g9, g10, g11⟩ := r2.c12
    have RR := Lib.hid r2
    have O1 := Lib.hid o1
    have O2 := Lib.hid o2
    have B2 := Lib.hid b2
    clear a2 r2 o1 o2 b2
    go_wp2
    refine bodyPost_ret (v := evV pk pa pn c (.slice m0 ml mc) x (.slice n0 nl nc)) (res_ev (q := w.heap.size + 1) rfl rfl ?_) rfl ⟨m0, ml, mc, n0, nl, nc, rfl, ?_, ?_, ?_⟩
    · exact ((((((((((((RR.out.set 0 (.int .i64 pk)).set 1 (.int .i64 pa)).set 2 (.int .i64 pn)).set 3 (.int .i64 c.k)).set 4 (.int .i64 c.a)).set 5 (.int .i64 c.n)).set 6 (.int .u64 c.v)).set 7 (.int .u64 c.x)).set 8 (.slice m0 ml mc)).set 9 (.int .u64 x.v)).set 10 (.bool x.d)).set 11 (.slice n0 nl nc))
    · refine OwB.mono (B := w.heap.size + 2) ?_ (by omega)
      iterate 12 (refine OwB.farC ?_ (by show w.heap.size + 1 < w.heap.size + 2; omega) _)
      exact O1.out
    · refine OwB.mono (B := w.heap.size + 2) ?_ (by omega)
      iterate 12 (refine OwB.farC ?_ (by show w.heap.size + 1 < w.heap.size + 2; omega) _)
      exact O2.out
    · iterate 12 (refine Below.setCell ?_ (by show w.heap.size ≤ w.heap.size + 1; omega) _)
      exact B2.out
end Go.Proofs.YtpicplkbblmbeaaGreat
