/- Contract of sched.World.step where the access is refused: the actor is dead, and nothing else has turned. Conditions: as it says. -/
import Derived.Test.YtggjhleomocojaaGreatSc
namespace Go.Proofs.YtggjhleomocojaaGreat
set_option maxRecDepth 100000
open Go.RowKit
set_option linter.unusedVariables false
set_option linter.unusedSimpArgs false
theorem bel_drew0 {B : Nat} {w w' : World} (h : Below B w.drew w') : Below B w w' := ⟨h.os, h.tape, h.output, h.size, h.block⟩
set_option maxHeartbeats 400000 in
theorem wStep_bad (C : Fam) (F : Nat → Prop) (W ab xb p c q : Nat) (d : Bool) (s : C.M.σ) (cnt : Int) (bs : List Int) (rw : List Value) (w : World)
  (hW : Blk w W (.pointer (some ⟨p, 0, none⟩) :: rw)) (hb : Blk w ab [.iface (C.ty s) (.pointer (some ⟨q, 0, none⟩)), .bool d]) (hi : C.inv w F q s) (hB : Buf w p c cnt bs)
  (hl : C.M.live s = true) (he : (C.M.want s).err bs.length ≠ 0) :
  Calls Tryz.prog 89 #[.pointer (some ⟨W, 0, none⟩), .pointer (some ⟨ab, 0, none⟩), .pointer (some ⟨xb, 0, none⟩)] w fun e w' => e = .returned (.int .i64 ((C.M.want s).err bs.length)) ∧
   Blk w' ab [.iface (C.ty s) (.pointer (some ⟨q, 0, none⟩)), .bool true] ∧ Keep (· = ab) w w' := by
 have hwf := C.wf hi
 have wl := hW.lt
 have al := hb.lt
 have pl := hB.hd.lt
 have cl := hB.wd.lt
 have HI := Lib.hid hi
 have HW := Lib.hid hW
 have HA := Lib.hid hb
 have HB := Lib.hid hB
 have HWF := Lib.hid hwf
 have hL := hl
 obtain ⟨E, hE⟩ : ∃ E, E = (C.M.want s).err bs.length := ⟨_, rfl⟩
 rw [← hE] at he ⊢
 have hEb : (E != 0) = true := by simpa using he
 clear hi hW hb hB he hwf hl
 generalize hC : C.M.want s = A at *
 obtain ⟨k, a, n, v, x, b⟩ := A
 have HE := Lib.hid (show E = acE bs.length k a n b.length from hE)
 clear hE
 go_enter Tryz.func89, Tryz.ntmps89
 go_wp2_with fail
 refine (aNext_some C F ab q d s _ HA.out HI.out).mono ?_
 rintro e w1 ⟨s0, sl, sc, rfl, hr, b1⟩
 rw [hC, hL]
 unfold AA.V
 dsimp only
 rw [hC] at hr
 have HR1 := Lib.hid hr
 clear hr
 go_wp2_with fail
 refine (clone_any _ b _ (HR1.out.below ((Below.refl _ _).alloc (Nat.le_refl _) _)) (by have := HWF.out.bl; dsimp only at this; omega)).mono ?_
 rintro e w2 ⟨sv, rfl, o2, b2⟩
 obtain ⟨t0, tl, tc, rfl⟩ := o2.isSliceC
 have z1 := b1.size
 have z2 := b2.size
 simp at z2
 have L2 := Lib.hid (Blk.below (Blk.made w1 #[.int .i64 k, .int .i64 a, .int .i64 n, .int .u64 v, .int .u64 x, .slice s0 sl sc] 72) b2 (by simp))
 have B2 : Below w.heap.size w w2 := (b1.alloc (by omega) _).trans (b2.mono (by simp; omega))
 have O2 := Lib.hid o2
 clear b1 b2 o2
 have l5 := L2.out.cell 5
 have g5 := L2.out.frozen 5
 simp only [List.getElem?_toArray, List.getElem?_cons_zero, List.getElem?_cons_succ] at l5
 have hlt2 : w1.heap.size < w2.heap.size := by omega
 go_wp2_with fail
 obtain ⟨w3, h3⟩ : ∃ w3, w3 = w2.setCell ⟨w1.heap.size, 5, none⟩ (.slice t0 tl tc) := ⟨_, rfl⟩
 rw [← h3]
 have L3 : Blk w3 w1.heap.size [.int .i64 k, .int .i64 a, .int .i64 n, .int .u64 v, .int .u64 x, .slice t0 tl tc] := by
  rw [h3]
  exact L2.out.set 5 _
 have Z3 := Lib.hid (show w3.heap.size = w2.heap.size by rw [h3]; simp [World.setCell])
 have z31 : w1.heap.size < w3.heap.size := by rw [Z3.out]; omega
 have B3 : Below w.heap.size w w3 := by rw [h3]; exact B2.setCell (by show w.heap.size ≤ w1.heap.size; omega) _
 have O3 : OwB 5 (w1.heap.size + 1) w3 (.slice t0 tl tc) b := by
  rw [h3]
  exact OwB.farC (O2.out.mono (by simp)) (by show w1.heap.size < w1.heap.size + 1; omega) _
 clear h3 L2 O2 l5 g5
 have W3 : w3.cell? ⟨W, 0, none⟩ = some (.pointer (some ⟨p, 0, none⟩)) := (B3.cell (p := ⟨W, 0, none⟩) wl).trans (HW.out.cell 0)
 have l0 := L3.cell 0
 have l1 := L3.cell 1
 have l2 := L3.cell 2
 have l3 := L3.cell 3
 have l4 := L3.cell 4
 have l5 := L3.cell 5
 simp only [List.getElem?_cons_zero, List.getElem?_cons_succ] at l0 l1 l2 l3 l4 l5
 have LL := Lib.hid L3
 have OO := Lib.hid O3
 clear L3 O3
 have HB3 := Lib.hid (HB.out.below B3 pl cl)
 have HTL := Lib.hid (show tl = b.length from rd_len OO.out.rd)
 have HNL := Lib.hid (show ¬ (w1.heap.size = p ∨ w1.heap.size = c) by omega)
 have HSZ := Lib.hid (show w1.heap.size < w3.drew.heap.size by rw [World.size_drew]; omega)
 have HSW := Lib.hid (show W < w3.drew.heap.size by rw [World.size_drew]; omega)
 have HSZa := Lib.hid (show w1.heap.size < (w3.alloc (Obj.cells #[Value.int IntKind.u64 0, Value.bool false, Value.slice none 0 0] 74)).drew.heap.size by rw [World.size_drew, World.size_alloc]; omega)
 have HSWa := Lib.hid (show W < (w3.alloc (Obj.cells #[Value.int IntKind.u64 0, Value.bool false, Value.slice none 0 0] 74)).drew.heap.size by rw [World.size_drew, World.size_alloc]; omega)
 have HT0 : Hid (Blk (w3.alloc (Obj.cells #[Value.int IntKind.u64 0, Value.bool false, Value.slice none 0 0] 74)).drew w3.heap.size [.int .u64 0, .bool false, .slice none 0 0]) := Lib.hid (Blk.drew (Blk.made w3 #[.int .u64 0, .bool false, .slice none 0 0] 74))
 obtain ⟨cE, hcE'⟩ : ∃ cE, cE = w3.heap.size := ⟨_, rfl⟩
 have hcE := Lib.hid hcE'
 have HEt := Lib.hid (show acE bs.length k a n tl = E by rw [HTL.out]; exact HE.out.symm)
 clear hcE'
 go_upto_region 5 with fail
 go_cut [9, 10] from 22 to 30 (fun t e wx => ∃ (T : Nat), t = .pointer (some ⟨T, 0, none⟩) ∧ e = .int .i64 E ∧ Below cE w3 wx)
 case first =>
  refine wp_region_held_drew (S := fun w' => w'.cell? ⟨W, 0, none⟩ = some (.pointer (some ⟨p, 0, none⟩)) ∧ w'.cell? ⟨w1.heap.size, 0, none⟩ = some (.int .i64 k) ∧ w'.cell? ⟨w1.heap.size, 1, none⟩ = some (.int .i64 a) ∧ w'.cell? ⟨w1.heap.size, 2, none⟩ = some (.int .i64 n) ∧ w'.cell? ⟨w1.heap.size, 3, none⟩ = some (.int .u64 v) ∧ w'.cell? ⟨w1.heap.size, 4, none⟩ = some (.int .u64 x) ∧ w'.cell? ⟨w1.heap.size, 5, none⟩ = some (.slice t0 tl tc)) (by kernel_rfl) ?_ (fun hHeld => ?_)
  ·try dsimp only
   exact ⟨W3, l0, l1, l2, l3, l4, l5⟩
  refine wpT (v := ?_) 0 rfl ?_ ?_
  rotate_left
  ·intro w0 hSw
   (try dsimp only at hSw)
   go_simp
   try with_reducible rfl
  try simp only [Act.put, tS]
  refine wpT (v := ?_) 1 rfl ?_ ?_
  rotate_left
  ·intro w0 hSw
   (try dsimp only at hSw)
   go_simp
   try with_reducible rfl
  try simp only [Act.put, tS]
  refine wpT (v := ?_) 2 rfl ?_ ?_
  rotate_left
  ·intro w0 hSw
   (try dsimp only at hSw)
   go_simp
   try with_reducible rfl
  try simp only [Act.put, tS]
  refine wpT (v := ?_) 3 rfl ?_ ?_
  rotate_left
  ·intro w0 hSw
   (try dsimp only at hSw)
   go_simp
   try with_reducible rfl
  try simp only [Act.put, tS]
  refine wpT (v := ?_) 4 rfl ?_ ?_
  rotate_left
  ·intro w0 hSw
   (try dsimp only at hSw)
   go_simp
   try with_reducible rfl
  try simp only [Act.put, tS]
  refine wpAnyH_ready (rs := [5, 9]) (by kernel_rfl) (by simp) ?_
  refine AllReadyH.cons rfl (fun K hK => ?_) (AllReadyH.cons rfl (fun K hK => ?_) AllReadyH.nil)
  ·go_simp
   go_at_call 122
   refine (mDo_bad p c cnt bs k a n v x t0 tl tc _ (Buf.drew HB3.out) (by rw [HEt.out]; simpa using hEb)).mono ?_
   rintro e w4 ⟨rfl, b4⟩
   rw [HEt.out]
   unfold anV
   go_wp2_with fail
   refine hK.out _ _ ?_ (fun hHeld => ?_)
   ·try dsimp only
    exact ⟨(b4.cell (p := ⟨W, 0, none⟩) HSW.out).trans W3, (b4.cell (p := ⟨w1.heap.size, 0, none⟩) HSZ.out).trans l0, (b4.cell (p := ⟨w1.heap.size, 1, none⟩) HSZ.out).trans l1, (b4.cell (p := ⟨w1.heap.size, 2, none⟩) HSZ.out).trans l2, (b4.cell (p := ⟨w1.heap.size, 3, none⟩) HSZ.out).trans l3, (b4.cell (p := ⟨w1.heap.size, 4, none⟩) HSZ.out).trans l4, (b4.cell (p := ⟨w1.heap.size, 5, none⟩) HSZ.out).trans l5⟩
   clear hK K
   try simp only [Act.put, tS]
   refine wpT (v := ?_) 6 rfl ?_ ?_
   rotate_left
   ·intro w0 hSw
    (try dsimp only at hSw)
    go_simp
    try with_reducible rfl
   try simp only [Act.put, tS]
   refine wpT (v := ?_) 7 rfl ?_ ?_
   rotate_left
   ·intro w0 hSw
    (try dsimp only at hSw)
    go_simp
    try with_reducible rfl
   try simp only [Act.put, tS]
   refine wpT (v := ?_) 8 rfl ?_ ?_
   rotate_left
   ·intro w0 hSw
    (try dsimp only at hSw)
    go_simp
    try with_reducible rfl
   try simp only [Act.put, tS]
   refine wpR 9 rfl fun K hK => ?_
   go_simp
   refine hK.out _ _ ?_ (fun hHeld => ?_)
   ·try dsimp only
    go_keep
   clear hK K
   try simp only [Act.put, tS]
   refine wpR 10 rfl fun K hK => ?_
   go_simp
   refine hK.out _ _ ?_ (fun hHeld => ?_)
   ·try dsimp only
    go_keep
   clear hK K
   try simp only [Act.put, tS]
   refine wpT (v := ?_) 11 rfl ?_ ?_
   rotate_left
   ·intro w0 hSw
    (try dsimp only at hSw)
    go_simp
    try with_reducible rfl
   try simp only [Act.put, tS]
   refine wpAnyH_done (by kernel_rfl) ?_ _
   go_wp2_with fail
   go_meet
   rw [World.size_drew] at b4
   exact ⟨_, rfl, rfl, by rw [hcE.out]; exact Below.alloc (bel_drew0 b4) b4.size _⟩
  ·go_simp
   go_wp2_with fail
   refine hK.out _ _ ?_ (fun hHeld => ?_)
   ·try dsimp only
    go_keep
   clear hK K
   try simp only [Act.put, tS]
   refine wpR 5 rfl fun K hK => ?_
   go_simp
   go_at_call 122
   refine (mDo_bad p c cnt bs k a n v x t0 tl tc _ (Buf.drew (Buf.alloc HB3.out _)) (by rw [HEt.out]; simpa using hEb)).mono ?_
   rintro e w4 ⟨rfl, b4⟩
   rw [HEt.out]
   unfold anV
   have E4 := Lib.hid (HT0.out.below b4 (by rw [World.size_drew, World.size_alloc]; exact Nat.lt_succ_self _))
   obtain ⟨e40, e41, e42⟩ := Blk.c3 E4.out
   have e50 := E4.out.frozen 0
   have e51 := E4.out.frozen 1
   have e52 := E4.out.frozen 2
   have hcW := fun o => b4.cell (p := ⟨W, o, none⟩) HSWa.out
   have hc := fun o => b4.cell (p := ⟨w1.heap.size, o, none⟩) HSZa.out
   have nW1 : w3.heap.size ≠ W := by omega
   have nL1 : w3.heap.size ≠ w1.heap.size := by omega
   go_wp2_with fail
   refine hK.out _ _ ?_ (fun hHeld => ?_)
   ·try dsimp only
    go_keep
   clear hK K
   try simp only [Act.put, tS]
   refine wpT (v := ?_) 6 rfl ?_ ?_
   rotate_left
   ·intro w0 hSw
    (try dsimp only at hSw)
    go_simp
    try with_reducible rfl
   try simp only [Act.put, tS]
   refine wpT (v := ?_) 7 rfl ?_ ?_
   rotate_left
   ·intro w0 hSw
    (try dsimp only at hSw)
    go_simp
    try with_reducible rfl
   try simp only [Act.put, tS]
   refine wpT (v := ?_) 8 rfl ?_ ?_
   rotate_left
   ·intro w0 hSw
    (try dsimp only at hSw)
    go_simp
    try with_reducible rfl
   try simp only [Act.put, tS]
   refine wpR 10 rfl fun K hK => ?_
   go_simp
   refine hK.out _ _ ?_ (fun hHeld => ?_)
   ·try dsimp only
    go_keep
   clear hK K
   try simp only [Act.put, tS]
   refine wpT (v := ?_) 11 rfl ?_ ?_
   rotate_left
   ·intro w0 hSw
    (try dsimp only at hSw)
    go_simp
    try with_reducible rfl
   try simp only [Act.put, tS]
   refine wpAnyH_done (by kernel_rfl) ?_ _
   go_wp2_with fail
   go_meet
   rw [World.size_drew, World.size_alloc] at b4
   have B4 : Below w3.heap.size w3 w4 := ((Below.refl _ w3).alloc (Nat.le_refl _) _).trans (bel_drew0 (b4.mono (Nat.le_succ _)))
   exact ⟨_, rfl, rfl, by rw [hcE.out]; exact ((B4.setCell (p := ⟨w3.heap.size, 0, none⟩) (Nat.le_refl _) _).setCell (p := ⟨w3.heap.size, 1, none⟩) (Nat.le_refl _) _).setCell (p := ⟨w3.heap.size, 2, none⟩) (Nat.le_refl _) _⟩
 case rest =>
  obtain ⟨T, rfl, rfl, bx⟩ := hcut
  have A5 := Lib.hid ((HA.out.below B3 al).below bx (by rw [hcE.out]; have := B3.size; omega))
  have B5 : Below w.heap.size w wc := B3.trans (bx.mono (by rw [hcE.out]; exact B3.size))
  clear W3 l0 l1 l2 l3 l4 l5 bx
  have y1 := A5.out.cell 1
  have g1 := A5.out.frozen 1
  simp only [List.getElem?_cons_zero, List.getElem?_cons_succ] at y1
  go_wp2
  go_ret
  exact ⟨rfl, A5.out.set 1 _, Keep.setCell (M := (· = ab)) (Below.keeps B5) (p := ⟨ab, 1, none⟩) (.inl rfl) _⟩
end Go.Proofs.YtggjhleomocojaaGreat
