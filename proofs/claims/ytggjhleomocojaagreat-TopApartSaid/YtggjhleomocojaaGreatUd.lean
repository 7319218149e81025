/- The fixed facts of the laws through the layers. Conditions: none. -/
import Derived.Test.YtggjhleomocojaaGreatUh
namespace Go.Proofs.YtggjhleomocojaaGreat
set_option maxRecDepth 100000
open Go.RowKit
set_option linter.unusedVariables false
set_option linter.unusedSimpArgs false
theorem hs_at1 : ∀ (es : List ((Int × (Int × List Int)) × Value)) (k : Nat) (e : (Int × (Int × List Int)) × Value), es[k]? = some e → (es.flatMap hsL)[k * 3 + 1]? = some (.int .i32 e.1.2.1)
 | [], k, e, h => by simp at h
 | x :: r, 0, e, h => by
  simp at h
  subst h
  rfl
 | x :: r, k + 1, e, h => by
  have h1 := hs_at1 r k e (by simpa using h)
  rw [List.flatMap_cons, List.getElem?_append_right (by rw [hsL_len]; omega), hsL_len, show (k + 1) * 3 + 1 - 3 = k * 3 + 1 by omega]
  exact h1
theorem HsIn.cell3 {w : World} {O R : Nat → Prop} {v : Value} {l : List (Int × (Int × List Int))} (h : HsIn w O R v l) {k : Nat} {a t : Int} {d : List Int} (hk : l[k]? = some (a, (t, d))) : ∃ g c s0 sl sc, v = .slice (some ⟨g, 0, none⟩) l.length c ∧ w.cell? ⟨g, k * 3, none⟩ = some (.int .i64 a) ∧ w.cell? ⟨g, k * 3 + 1, none⟩ = some (.int .i32 t) ∧ w.cell? ⟨g, k * 3 + 2, none⟩ = some (.slice s0 sl sc) ∧ RdB w (.slice s0 sl sc) d := by
 obtain ⟨⟨es, he, ho, hes⟩, _⟩ := h
 have hkl : k < l.length := (List.getElem?_eq_some_iff.1 hk).1
 have hel : es.length = l.length := by rw [← he, List.length_map]
 obtain ⟨e, hek⟩ : ∃ e, es[k]? = some e := ⟨_, List.getElem?_eq_getElem (by omega)⟩
 have h1 : e.1 = (a, (t, d)) := by
  rw [← he, List.getElem?_map, hek] at hk
  exact Option.some.inj hk
 obtain ⟨h2, _⟩ := hes e (List.mem_of_getElem? hek)
 obtain ⟨m1, m2⟩ := hs_at es k e hek
 have m3 := hs_at1 es k e hek
 obtain ⟨e1, e2⟩ := e
 dsimp only at h1 h2 m1 m2 m3
 subst h1
 obtain ⟨sa, sl, sc, rfl⟩ := h2.isSl
 rcases ho.2 with ⟨_, h0⟩ | ⟨g, cap, cur, rfl, _⟩
 ·omega
 ·refine ⟨g, cap, sa, sl, sc, by rw [hel], ?_, ?_, ?_, h2⟩
  ·rw [World.ownsRow.cellAt ho _ (by omega), m1]
  ·rw [World.ownsRow.cellAt ho _ (by omega), m3]
  ·rw [World.ownsRow.cellAt ho _ (by omega), m2]
theorem strOne : strOfNums [111, 110, 101] = ⟨#[111, 110, 101]⟩ := by decide
theorem strTwo : strOfNums [116, 119, 111] = ⟨#[116, 119, 111]⟩ := by decide
set_option maxHeartbeats 8000000 in
theorem moves_any (w : World) : Calls Tryz.prog 7 #[] w fun e w' => e = .returned (.bool true) ∧ Below w.heap.size w w' := by
 go_enter Tryz.func7, Tryz.ntmps7
 go_wp2_with fail
 refine (mNew_at 256 32 _ (by decide) (by decide) (by decide)).mono ?_
 rintro e w1 ⟨p, c, rfl, hb1, hp, hc, b1⟩
 have HB1 := Lib.hid hb1
 have B1 := Lib.hid b1
 have z1 := b1.size
 clear hb1 b1
 go_upto_region 3 with fail
 obtain ⟨w2, hw2⟩ : ∃ w2, w2 = (w1.alloc (.cells #[.int .i64 0, .int .i64 64] 25)).alloc (.cells #[.int .i64 96, .int .i64 64] 25) := ⟨_, rfl⟩
 rw [← hw2]
 have b2 : Below w1.heap.size w1 w2 := by rw [hw2]; go_grown
 have R2 := Lib.hid (show Blk w2 w1.heap.size [.int .i64 0, .int .i64 64] by rw [hw2]; exact (Blk.made w1 _ _).alloc _)
 have C2 := Lib.hid (show Blk w2 (w1.heap.size + 1) [.int .i64 96, .int .i64 64] by
  rw [hw2]
  have := Blk.made (w1.alloc (.cells #[.int .i64 0, .int .i64 64] 25)) #[.int .i64 96, .int .i64 64] 25
  simpa using this)
 have z2 : w2.heap.size = w1.heap.size + 1 + 1 := by rw [hw2]; simp
 have HB2 := Lib.hid (HB1.out.belows b2)
 have B2 := Lib.hid (B1.out.trans (b2.mono z1))
 have lp := HB1.out.hd.lt
 have lc := Blk.lt HB1.out.wd
 have r0 := R2.out.cell 0
 have r1 := R2.out.cell 1
 have k0 := C2.out.cell 0
 have k1 := C2.out.cell 1
 have lr := R2.out.lt
 have lk := C2.out.lt
 simp only [List.getElem?_cons_zero, List.getElem?_cons_succ] at r0 r1 k0 k1
 clear hw2 b2
 go_region_held3 (fun w' => w'.cell? ⟨w1.heap.size, 0, none⟩ = some (.int .i64 0) ∧ w'.cell? ⟨w1.heap.size, 1, none⟩ = some (.int .i64 64) ∧ w'.cell? ⟨w1.heap.size + 1, 0, none⟩ = some (.int .i64 96) ∧ w'.cell? ⟨w1.heap.size + 1, 1, none⟩ = some (.int .i64 64)) (first | go_keep | trivial)
  (first
   | (go_at_call 31; refine (gNew_f 0 64 1 _ (by decide) (by decide) (by decide) (by decide)).mono ?_; rintro e wg ⟨qg, rfl, hqg, hFg, bg⟩; have zg0 : w2.heap.size ≤ wg.heap.size := (by simpa using bg.size); have hcg := fun o => bg.cell (p := ⟨w1.heap.size, o, none⟩) (by simpa using lr); have hcg2 := fun o => bg.cell (p := ⟨w1.heap.size + 1, o, none⟩) (by simpa using lk))
   | (go_at_call 14; refine (relNew_any 96 64 ⟨0, 0, 0⟩ 1 _ (by decide) (by decide) (by decide) (by decide)).mono ?_; rintro e wx ⟨qx, Fx, rfl, hqx, hFx, hFx2, bx⟩; unfold ptr; have hcx := fun o => bx.cell (p := ⟨w1.heap.size, o, none⟩) (by show w1.heap.size < wg.heap.size; omega); have hcx2 := fun o => bx.cell (p := ⟨w1.heap.size + 1, o, none⟩) (by show w1.heap.size + 1 < wg.heap.size; omega)))
 have zg := bg.size
 have zx := bx.size
 simp at zg hqg
 have HG := Lib.hid (hFg.below bx)
 have HX := Lib.hid hFx
 have HFX := Lib.hid hFx2
 have B3 := Lib.hid (show Below w2.heap.size w2 wx from (bel_drewN 1 (Below.refl _ w2)).trans (bg.trans (bx.mono zg)))
 have HB3 := Lib.hid (HB2.out.belows B3.out)
 have R3 := Lib.hid (R2.out.below B3.out lr)
 have C3 := Lib.hid (C2.out.below B3.out lk)
 have B03 := Lib.hid (B2.out.trans (B3.out.mono (by have := B2.out.size; omega)))
 have r0 := R3.out.cell 0
 have r1 := R3.out.cell 1
 have k0 := C3.out.cell 0
 have k1 := C3.out.cell 1
 simp only [List.getElem?_cons_zero, List.getElem?_cons_succ] at r0 r1 k0 k1
 have lr := R3.out.lt
 have lk := C3.out.lt
 have lp3 : p < wx.heap.size := HB3.out.hd.lt
 have lc3 : c < wx.heap.size := Blk.lt HB3.out.wd
 clear hcg hcg2 hcx hcx2 hFg hFx hFx2 bg bx
 have HS0 := Lib.hid (MvS.start wx)
 go_upto_region 4 with fail
 go_cut [] from 20 to 33 (fun wy => Keep (fun i => i = p ∨ i = c) wx wy ∧ Buf wy p c mv1.cnt mv1.bs)
 case first =>
  refine wp_region_held_drew (S := fun w' => w'.cell? ⟨w1.heap.size, 0, none⟩ = some (.int .i64 0) ∧ w'.cell? ⟨w1.heap.size, 1, none⟩ = some (.int .i64 64) ∧ w'.cell? ⟨w1.heap.size + 1, 0, none⟩ = some (.int .i64 96) ∧ w'.cell? ⟨w1.heap.size + 1, 1, none⟩ = some (.int .i64 64)) (by kernel_rfl) ?_ (fun hHeld => ?_)
  ·try dsimp only
   exact ⟨r0, r1, k0, k1⟩
  refine wpT 0 rfl ?_
  try simp only [Act.put, tS]
  refine wpT 1 rfl ?_
  try simp only [Act.put, tS]
  refine wpT 6 rfl ?_
  try simp only [Act.put, tS]
  obtain ⟨V0, hV0⟩ : ∃ V0, V0 = wx.drew := ⟨_, rfl⟩
  have MS0 := Lib.hid (show MvS wx V0 none none (fun _ => False) none by rw [hV0]; exact (MvS.start wx).below (bel_drewN 1 (Below.refl _ _)))
  rw [← hV0] at hHeld ⊢
  clear hV0
  refine wpAnyH_ready (rs := [2, 7]) (by kernel_rfl) (by simp) ?_
  refine AllReadyH.cons rfl (fun K hK => ?_) (AllReadyH.cons rfl (fun K hK => ?_) AllReadyH.nil)
  ·try go_simp
   go_wp2_with fail
   obtain ⟨V1, hV3⟩ : ∃ V1, V1 = V0.alloc (Obj.cells #[.int .u8 111, .int .u8 110, .int .u8 101] 5) := ⟨_, rfl⟩
   have MS2 := Lib.hid (show MvS wx V1 (some V0.heap.size) none (fun _ => False) none by rw [hV3]; exact MS0.out.ax _)
   have U4 : V1.heap[V0.heap.size]? = some (.cells #[.int .u8 111, .int .u8 110, .int .u8 101] 5) := by rw [hV3]; exact (MapKept.heap_alloc V0 _).1
   have bb5 : Below V0.heap.size V0 V1 := by rw [hV3]; exact (Below.refl _ _).alloc (Nat.le_refl _) _
   have z6 := bb5.size
   rw [← hV3]
   clear hV3
   refine hK.out _ _ ?_ (fun hHeld => ?_)
   ·try dsimp only
    exact ⟨(MS2.out.bel.cell (p := ⟨w1.heap.size, 0, none⟩) lr).trans r0, (MS2.out.bel.cell (p := ⟨w1.heap.size, 1, none⟩) lr).trans r1, (MS2.out.bel.cell (p := ⟨w1.heap.size + 1, 0, none⟩) lk).trans k0, (MS2.out.bel.cell (p := ⟨w1.heap.size + 1, 1, none⟩) lk).trans k1⟩
   clear hK K
   try simp only [Act.put, tS]
   refine wpAnyH_ready (rs := [3, 7]) (by kernel_rfl) (by simp) ?_
   refine AllReadyH.cons rfl (fun K hK => ?_) (AllReadyH.cons rfl (fun K hK => ?_) AllReadyH.nil)
   ·obtain ⟨V7, hcv9, kk10, cc11⟩ := conv_self V1 V0.heap.size _ U4 3 3
    have MS8 := Lib.hid (MS2.out.conv kk10 cc11 (MS2.out.hx _ rfl).2.1 (MS2.out.hx _ rfl).2.2.2)
    try go_simp
    clear hcv9
    refine hK.out _ _ ?_ (fun hHeld => ?_)
    ·try dsimp only
     exact ⟨(MS8.out.bel.cell (p := ⟨w1.heap.size, 0, none⟩) lr).trans r0, (MS8.out.bel.cell (p := ⟨w1.heap.size, 1, none⟩) lr).trans r1, (MS8.out.bel.cell (p := ⟨w1.heap.size + 1, 0, none⟩) lk).trans k0, (MS8.out.bel.cell (p := ⟨w1.heap.size + 1, 1, none⟩) lk).trans k1⟩
    clear hK K
    try simp only [Act.put, tS]
    refine wpAnyH_ready (rs := [4, 7]) (by kernel_rfl) (by simp) ?_
    refine AllReadyH.cons rfl (fun K hK => ?_) (AllReadyH.cons rfl (fun K hK => ?_) AllReadyH.nil)
    ·go_simp
     go_at_call 32
     refine (pNew_f 0 64 1 _ 3 3 [111, 110, 101] _ MS8.out.rx (by decide) isOne (by decide) (by decide) (by decide) (by decide)).mono ?_
     rintro e V12 ⟨qp, rfl, hqp, hFp, bb14⟩
     have MS13 := Lib.hid (MS8.out.put bb14 hFp)
     go_wp2_with fail
     refine hK.out _ _ ?_ (fun hHeld => ?_)
     ·try dsimp only
      exact ⟨(MS13.out.bel.cell (p := ⟨w1.heap.size, 0, none⟩) lr).trans r0, (MS13.out.bel.cell (p := ⟨w1.heap.size, 1, none⟩) lr).trans r1, (MS13.out.bel.cell (p := ⟨w1.heap.size + 1, 0, none⟩) lk).trans k0, (MS13.out.bel.cell (p := ⟨w1.heap.size + 1, 1, none⟩) lk).trans k1⟩
     clear hK K
     try simp only [Act.put, tS]
     refine wpT 5 rfl ?_
     try simp only [Act.put, tS]
     refine wpR 7 rfl fun K hK => ?_
     try go_simp
     go_wp2_with fail
     obtain ⟨V15, hV17⟩ : ∃ V15, V15 = V12.alloc (Obj.cells #[.int .u8 116, .int .u8 119, .int .u8 111] 5) := ⟨_, rfl⟩
     have MS16 := Lib.hid (show MvS wx V15 (some V0.heap.size) (some V12.heap.size) (fun k => V7.heap.size ≤ k ∧ k < V12.heap.size) (some qp) by rw [hV17]; exact MS13.out.ay _)
     have U18 : V15.heap[V12.heap.size]? = some (.cells #[.int .u8 116, .int .u8 119, .int .u8 111] 5) := by rw [hV17]; exact (MapKept.heap_alloc V12 _).1
     have bb19 : Below V12.heap.size V12 V15 := by rw [hV17]; exact (Below.refl _ _).alloc (Nat.le_refl _) _
     have z20 := bb19.size
     rw [← hV17]
     clear hV17
     have NE21 : V0.heap.size < V12.heap.size := (MS13.out.hx _ rfl).2.2.1
     refine hK.out _ _ ?_ (fun hHeld => ?_)
     ·try dsimp only
      exact ⟨(MS16.out.bel.cell (p := ⟨w1.heap.size, 0, none⟩) lr).trans r0, (MS16.out.bel.cell (p := ⟨w1.heap.size, 1, none⟩) lr).trans r1, (MS16.out.bel.cell (p := ⟨w1.heap.size + 1, 0, none⟩) lk).trans k0, (MS16.out.bel.cell (p := ⟨w1.heap.size + 1, 1, none⟩) lk).trans k1⟩
     clear hK K
     try simp only [Act.put, tS]
     refine wpR 8 rfl fun K hK => ?_
     obtain ⟨V22, hcv24, kk25, cc26⟩ := conv_self V15 V12.heap.size _ U18 3 3
     have MS23 := Lib.hid (MS16.out.conv kk25 cc26 (MS16.out.hy _ rfl).2.1 (MS16.out.hy _ rfl).2.2.2)
     try go_simp
     clear hcv24
     refine hK.out _ _ ?_ (fun hHeld => ?_)
     ·try dsimp only
      exact ⟨(MS23.out.bel.cell (p := ⟨w1.heap.size, 0, none⟩) lr).trans r0, (MS23.out.bel.cell (p := ⟨w1.heap.size, 1, none⟩) lr).trans r1, (MS23.out.bel.cell (p := ⟨w1.heap.size + 1, 0, none⟩) lk).trans k0, (MS23.out.bel.cell (p := ⟨w1.heap.size + 1, 1, none⟩) lk).trans k1⟩
     clear hK K
     try simp only [Act.put, tS]
     refine wpR 9 rfl fun K hK => ?_
     go_simp
     go_at_call 10
     refine (sNew_f 96 64 2 _ 3 3 [116, 119, 111] _ MS23.out.ry (by decide) isTwo (by decide) (by decide) (by decide) (by decide)).mono ?_
     rintro e V27 ⟨qs, rfl, hqs, hFs, bb29⟩
     have MS28 := Lib.hid (MS23.out.below bb29)
     have HSF := Lib.hid hFs
     have hsep : ∀ i, (V22.heap.size ≤ i ∧ i < V27.heap.size) → wx.heap.size ≤ i ∧ ¬ (fun k => V7.heap.size ≤ k ∧ k < V12.heap.size) i := fun i hi => ⟨by have := MS23.out.bel.size; omega, fun h => by have := (MS23.out.hF i h).2; omega⟩
     have HSEP := Lib.hid hsep
     clear hsep
     go_wp2_with fail
     refine hK.out _ _ ?_ (fun hHeld => ?_)
     ·try dsimp only
      exact ⟨(MS28.out.bel.cell (p := ⟨w1.heap.size, 0, none⟩) lr).trans r0, (MS28.out.bel.cell (p := ⟨w1.heap.size, 1, none⟩) lr).trans r1, (MS28.out.bel.cell (p := ⟨w1.heap.size + 1, 0, none⟩) lk).trans k0, (MS28.out.bel.cell (p := ⟨w1.heap.size + 1, 1, none⟩) lk).trans k1⟩
     clear hK K
     try simp only [Act.put, tS]
     refine wpT 10 rfl ?_
     try simp only [Act.put, tS]
     refine wpR 11 rfl fun K hK => ?_
     try go_simp
     go_wp2_with fail
     obtain ⟨V30, hV32⟩ : ∃ V30, V30 = V27.alloc (Obj.cells #[.iface 97 (.pointer (some ⟨qp, 0, none⟩)), .iface 35 (.pointer (some ⟨qs, 0, none⟩))] 66) := ⟨_, rfl⟩
     have bb33 : Below V27.heap.size V27 V30 := by rw [hV32]; exact (Below.refl _ _).alloc (Nat.le_refl _) _
     have MS31 := Lib.hid (MS28.out.below bb33)
     have HG2 := Lib.hid (show Blk V30 V27.heap.size [.iface 97 (ptr qp), .iface 35 (ptr qs)] by rw [hV32]; exact Blk.made V27 _ _)
     have HSF2 := Lib.hid (HSF.out.below bb33)
     rw [← hV32]
     clear hV32
     refine hK.out _ _ ?_ (fun hHeld => ?_)
     ·try dsimp only
      exact ⟨(MS31.out.bel.cell (p := ⟨w1.heap.size, 0, none⟩) lr).trans r0, (MS31.out.bel.cell (p := ⟨w1.heap.size, 1, none⟩) lr).trans r1, (MS31.out.bel.cell (p := ⟨w1.heap.size + 1, 0, none⟩) lk).trans k0, (MS31.out.bel.cell (p := ⟨w1.heap.size + 1, 1, none⟩) lk).trans k1⟩
     clear hK K
     try simp only [Act.put, tS]
     refine wpR 12 rfl fun K hK => ?_
     go_simp
     go_at_call 11
     refine (mvRunA MS31.out HSF2.out HSEP.out HB3.out HG2.out).mono ?_
     rintro e wn ⟨VV, rfl, bn, hR⟩
     have MSN := Lib.hid (MS31.out.below bn)
     go_wp2_with fail
     refine hK.out _ _ ?_ (fun hHeld => ?_)
     ·try dsimp only
      exact ⟨(MSN.out.bel.cell (p := ⟨w1.heap.size, 0, none⟩) lr).trans r0, (MSN.out.bel.cell (p := ⟨w1.heap.size, 1, none⟩) lr).trans r1, (MSN.out.bel.cell (p := ⟨w1.heap.size + 1, 0, none⟩) lk).trans k0, (MSN.out.bel.cell (p := ⟨w1.heap.size + 1, 1, none⟩) lk).trans k1⟩
     clear hK K
     try simp only [Act.put, tS]
     refine wpR 13 rfl fun K hK => ?_
     go_simp
     go_at_call 12
     refine hR.mono ?_
     rintro e wz ⟨⟨kz, rfl⟩, kw, hbw⟩
     go_wp2_with fail
     refine hK.out _ _ ?_ (fun hHeld => ?_)
     ·try dsimp only
      exact ⟨(kw.cell (b := w1.heap.size) 0 lr (by omega)).trans r0, (kw.cell (b := w1.heap.size) 1 lr (by omega)).trans r1, (kw.cell (b := w1.heap.size + 1) 0 lk (by omega)).trans k0, (kw.cell (b := w1.heap.size + 1) 1 lk (by omega)).trans k1⟩
     clear hK K
     try simp only [Act.put, tS]
     refine wpAnyH_done (by kernel_rfl) ?_ _
     clear hHeld
     go_wp2_with fail
     go_meet
     exact ⟨kw, hbw⟩
    ·try go_simp
     go_wp2_with fail
     obtain ⟨V34, hV36⟩ : ∃ V34, V34 = V7.alloc (Obj.cells #[.int .u8 116, .int .u8 119, .int .u8 111] 5) := ⟨_, rfl⟩
     have MS35 := Lib.hid (show MvS wx V34 (some V0.heap.size) (some V7.heap.size) (fun _ => False) none by rw [hV36]; exact MS8.out.ay _)
     have U37 : V34.heap[V7.heap.size]? = some (.cells #[.int .u8 116, .int .u8 119, .int .u8 111] 5) := by rw [hV36]; exact (MapKept.heap_alloc V7 _).1
     have bb38 : Below V7.heap.size V7 V34 := by rw [hV36]; exact (Below.refl _ _).alloc (Nat.le_refl _) _
     have z39 := bb38.size
     rw [← hV36]
     clear hV36
     have NE40 : V0.heap.size < V7.heap.size := (MS8.out.hx _ rfl).2.2.1
     refine hK.out _ _ ?_ (fun hHeld => ?_)
     ·try dsimp only
      exact ⟨(MS35.out.bel.cell (p := ⟨w1.heap.size, 0, none⟩) lr).trans r0, (MS35.out.bel.cell (p := ⟨w1.heap.size, 1, none⟩) lr).trans r1, (MS35.out.bel.cell (p := ⟨w1.heap.size + 1, 0, none⟩) lk).trans k0, (MS35.out.bel.cell (p := ⟨w1.heap.size + 1, 1, none⟩) lk).trans k1⟩
     clear hK K
     try simp only [Act.put, tS]
     refine wpAnyH_ready (rs := [4, 8]) (by kernel_rfl) (by simp) ?_
     refine AllReadyH.cons rfl (fun K hK => ?_) (AllReadyH.cons rfl (fun K hK => ?_) AllReadyH.nil)
     ·go_simp
      go_at_call 32
      refine (pNew_f 0 64 1 _ 3 3 [111, 110, 101] _ MS35.out.rx (by decide) isOne (by decide) (by decide) (by decide) (by decide)).mono ?_
      rintro e V41 ⟨qp, rfl, hqp, hFp, bb43⟩
      have MS42 := Lib.hid (MS35.out.put bb43 hFp)
      go_wp2_with fail
      have U44 := (bb43.block V7.heap.size (MS35.out.hy _ rfl).2.2.1).trans U37
      refine hK.out _ _ ?_ (fun hHeld => ?_)
      ·try dsimp only
       exact ⟨(MS42.out.bel.cell (p := ⟨w1.heap.size, 0, none⟩) lr).trans r0, (MS42.out.bel.cell (p := ⟨w1.heap.size, 1, none⟩) lr).trans r1, (MS42.out.bel.cell (p := ⟨w1.heap.size + 1, 0, none⟩) lk).trans k0, (MS42.out.bel.cell (p := ⟨w1.heap.size + 1, 1, none⟩) lk).trans k1⟩
      clear hK K
      try simp only [Act.put, tS]
      refine wpT 5 rfl ?_
      try simp only [Act.put, tS]
      refine wpR 8 rfl fun K hK => ?_
      obtain ⟨V45, hcv47, kk48, cc49⟩ := conv_self V41 V7.heap.size _ U44 3 3
      have MS46 := Lib.hid (MS42.out.conv kk48 cc49 (MS42.out.hy _ rfl).2.1 (MS42.out.hy _ rfl).2.2.2)
      try go_simp
      clear hcv47
      refine hK.out _ _ ?_ (fun hHeld => ?_)
      ·try dsimp only
       exact ⟨(MS46.out.bel.cell (p := ⟨w1.heap.size, 0, none⟩) lr).trans r0, (MS46.out.bel.cell (p := ⟨w1.heap.size, 1, none⟩) lr).trans r1, (MS46.out.bel.cell (p := ⟨w1.heap.size + 1, 0, none⟩) lk).trans k0, (MS46.out.bel.cell (p := ⟨w1.heap.size + 1, 1, none⟩) lk).trans k1⟩
      clear hK K
      try simp only [Act.put, tS]
      refine wpR 9 rfl fun K hK => ?_
      go_simp
      go_at_call 10
      refine (sNew_f 96 64 2 _ 3 3 [116, 119, 111] _ MS46.out.ry (by decide) isTwo (by decide) (by decide) (by decide) (by decide)).mono ?_
      rintro e V50 ⟨qs, rfl, hqs, hFs, bb52⟩
      have MS51 := Lib.hid (MS46.out.below bb52)
      have HSF := Lib.hid hFs
      have hsep : ∀ i, (V45.heap.size ≤ i ∧ i < V50.heap.size) → wx.heap.size ≤ i ∧ ¬ (fun k => V34.heap.size ≤ k ∧ k < V41.heap.size) i := fun i hi => ⟨by have := MS46.out.bel.size; omega, fun h => by have := (MS46.out.hF i h).2; omega⟩
      have HSEP := Lib.hid hsep
      clear hsep
      go_wp2_with fail
      refine hK.out _ _ ?_ (fun hHeld => ?_)
      ·try dsimp only
       exact ⟨(MS51.out.bel.cell (p := ⟨w1.heap.size, 0, none⟩) lr).trans r0, (MS51.out.bel.cell (p := ⟨w1.heap.size, 1, none⟩) lr).trans r1, (MS51.out.bel.cell (p := ⟨w1.heap.size + 1, 0, none⟩) lk).trans k0, (MS51.out.bel.cell (p := ⟨w1.heap.size + 1, 1, none⟩) lk).trans k1⟩
      clear hK K
      try simp only [Act.put, tS]
      refine wpT 10 rfl ?_
      try simp only [Act.put, tS]
      refine wpR 11 rfl fun K hK => ?_
      try go_simp
      go_wp2_with fail
      obtain ⟨V53, hV55⟩ : ∃ V53, V53 = V50.alloc (Obj.cells #[.iface 97 (.pointer (some ⟨qp, 0, none⟩)), .iface 35 (.pointer (some ⟨qs, 0, none⟩))] 66) := ⟨_, rfl⟩
      have bb56 : Below V50.heap.size V50 V53 := by rw [hV55]; exact (Below.refl _ _).alloc (Nat.le_refl _) _
      have MS54 := Lib.hid (MS51.out.below bb56)
      have HG2 := Lib.hid (show Blk V53 V50.heap.size [.iface 97 (ptr qp), .iface 35 (ptr qs)] by rw [hV55]; exact Blk.made V50 _ _)
      have HSF2 := Lib.hid (HSF.out.below bb56)
      rw [← hV55]
      clear hV55
      refine hK.out _ _ ?_ (fun hHeld => ?_)
      ·try dsimp only
       exact ⟨(MS54.out.bel.cell (p := ⟨w1.heap.size, 0, none⟩) lr).trans r0, (MS54.out.bel.cell (p := ⟨w1.heap.size, 1, none⟩) lr).trans r1, (MS54.out.bel.cell (p := ⟨w1.heap.size + 1, 0, none⟩) lk).trans k0, (MS54.out.bel.cell (p := ⟨w1.heap.size + 1, 1, none⟩) lk).trans k1⟩
      clear hK K
      try simp only [Act.put, tS]
      refine wpR 12 rfl fun K hK => ?_
      go_simp
      go_at_call 11
      refine (mvRunA MS54.out HSF2.out HSEP.out HB3.out HG2.out).mono ?_
      rintro e wn ⟨VV, rfl, bn, hR⟩
      have MSN := Lib.hid (MS54.out.below bn)
      go_wp2_with fail
      refine hK.out _ _ ?_ (fun hHeld => ?_)
      ·try dsimp only
       exact ⟨(MSN.out.bel.cell (p := ⟨w1.heap.size, 0, none⟩) lr).trans r0, (MSN.out.bel.cell (p := ⟨w1.heap.size, 1, none⟩) lr).trans r1, (MSN.out.bel.cell (p := ⟨w1.heap.size + 1, 0, none⟩) lk).trans k0, (MSN.out.bel.cell (p := ⟨w1.heap.size + 1, 1, none⟩) lk).trans k1⟩
      clear hK K
      try simp only [Act.put, tS]
      refine wpR 13 rfl fun K hK => ?_
      go_simp
      go_at_call 12
      refine hR.mono ?_
      rintro e wz ⟨⟨kz, rfl⟩, kw, hbw⟩
      go_wp2_with fail
      refine hK.out _ _ ?_ (fun hHeld => ?_)
      ·try dsimp only
       exact ⟨(kw.cell (b := w1.heap.size) 0 lr (by omega)).trans r0, (kw.cell (b := w1.heap.size) 1 lr (by omega)).trans r1, (kw.cell (b := w1.heap.size + 1) 0 lk (by omega)).trans k0, (kw.cell (b := w1.heap.size + 1) 1 lk (by omega)).trans k1⟩
      clear hK K
      try simp only [Act.put, tS]
      refine wpAnyH_done (by kernel_rfl) ?_ _
      clear hHeld
      go_wp2_with fail
      go_meet
      exact ⟨kw, hbw⟩
     ·obtain ⟨V57, hcv59, kk60, cc61⟩ := conv_self V34 V7.heap.size _ U37 3 3
      have MS58 := Lib.hid (MS35.out.conv kk60 cc61 (MS35.out.hy _ rfl).2.1 (MS35.out.hy _ rfl).2.2.2)
      try go_simp
      clear hcv59
      refine hK.out _ _ ?_ (fun hHeld => ?_)
      ·try dsimp only
       exact ⟨(MS58.out.bel.cell (p := ⟨w1.heap.size, 0, none⟩) lr).trans r0, (MS58.out.bel.cell (p := ⟨w1.heap.size, 1, none⟩) lr).trans r1, (MS58.out.bel.cell (p := ⟨w1.heap.size + 1, 0, none⟩) lk).trans k0, (MS58.out.bel.cell (p := ⟨w1.heap.size + 1, 1, none⟩) lk).trans k1⟩
      clear hK K
      try simp only [Act.put, tS]
      refine wpR 4 rfl fun K hK => ?_
      go_simp
      go_at_call 32
      refine (pNew_f 0 64 1 _ 3 3 [111, 110, 101] _ MS58.out.rx (by decide) isOne (by decide) (by decide) (by decide) (by decide)).mono ?_
      rintro e V62 ⟨qp, rfl, hqp, hFp, bb64⟩
      have MS63 := Lib.hid (MS58.out.put bb64 hFp)
      go_wp2_with fail
      refine hK.out _ _ ?_ (fun hHeld => ?_)
      ·try dsimp only
       exact ⟨(MS63.out.bel.cell (p := ⟨w1.heap.size, 0, none⟩) lr).trans r0, (MS63.out.bel.cell (p := ⟨w1.heap.size, 1, none⟩) lr).trans r1, (MS63.out.bel.cell (p := ⟨w1.heap.size + 1, 0, none⟩) lk).trans k0, (MS63.out.bel.cell (p := ⟨w1.heap.size + 1, 1, none⟩) lk).trans k1⟩
      clear hK K
      try simp only [Act.put, tS]
      refine wpT 5 rfl ?_
      try simp only [Act.put, tS]
      refine wpR 9 rfl fun K hK => ?_
      go_simp
      go_at_call 10
      refine (sNew_f 96 64 2 _ 3 3 [116, 119, 111] _ MS63.out.ry (by decide) isTwo (by decide) (by decide) (by decide) (by decide)).mono ?_
      rintro e V65 ⟨qs, rfl, hqs, hFs, bb67⟩
      have MS66 := Lib.hid (MS63.out.below bb67)
      have HSF := Lib.hid hFs
      have hsep : ∀ i, (V62.heap.size ≤ i ∧ i < V65.heap.size) → wx.heap.size ≤ i ∧ ¬ (fun k => V57.heap.size ≤ k ∧ k < V62.heap.size) i := fun i hi => ⟨by have := MS63.out.bel.size; omega, fun h => by have := (MS63.out.hF i h).2; omega⟩
      have HSEP := Lib.hid hsep
      clear hsep
      go_wp2_with fail
      refine hK.out _ _ ?_ (fun hHeld => ?_)
      ·try dsimp only
       exact ⟨(MS66.out.bel.cell (p := ⟨w1.heap.size, 0, none⟩) lr).trans r0, (MS66.out.bel.cell (p := ⟨w1.heap.size, 1, none⟩) lr).trans r1, (MS66.out.bel.cell (p := ⟨w1.heap.size + 1, 0, none⟩) lk).trans k0, (MS66.out.bel.cell (p := ⟨w1.heap.size + 1, 1, none⟩) lk).trans k1⟩
      clear hK K
      try simp only [Act.put, tS]
      refine wpT 10 rfl ?_
      try simp only [Act.put, tS]
      refine wpR 11 rfl fun K hK => ?_
      try go_simp
      go_wp2_with fail
      obtain ⟨V68, hV70⟩ : ∃ V68, V68 = V65.alloc (Obj.cells #[.iface 97 (.pointer (some ⟨qp, 0, none⟩)), .iface 35 (.pointer (some ⟨qs, 0, none⟩))] 66) := ⟨_, rfl⟩
      have bb71 : Below V65.heap.size V65 V68 := by rw [hV70]; exact (Below.refl _ _).alloc (Nat.le_refl _) _
      have MS69 := Lib.hid (MS66.out.below bb71)
      have HG2 := Lib.hid (show Blk V68 V65.heap.size [.iface 97 (ptr qp), .iface 35 (ptr qs)] by rw [hV70]; exact Blk.made V65 _ _)
      have HSF2 := Lib.hid (HSF.out.below bb71)
      rw [← hV70]
      clear hV70
      refine hK.out _ _ ?_ (fun hHeld => ?_)
      ·try dsimp only
       exact ⟨(MS69.out.bel.cell (p := ⟨w1.heap.size, 0, none⟩) lr).trans r0, (MS69.out.bel.cell (p := ⟨w1.heap.size, 1, none⟩) lr).trans r1, (MS69.out.bel.cell (p := ⟨w1.heap.size + 1, 0, none⟩) lk).trans k0, (MS69.out.bel.cell (p := ⟨w1.heap.size + 1, 1, none⟩) lk).trans k1⟩
      clear hK K
      try simp only [Act.put, tS]
      refine wpR 12 rfl fun K hK => ?_
      go_simp
      go_at_call 11
      refine (mvRunA MS69.out HSF2.out HSEP.out HB3.out HG2.out).mono ?_
      rintro e wn ⟨VV, rfl, bn, hR⟩
      have MSN := Lib.hid (MS69.out.below bn)
      go_wp2_with fail
      refine hK.out _ _ ?_ (fun hHeld => ?_)
      ·try dsimp only
       exact ⟨(MSN.out.bel.cell (p := ⟨w1.heap.size, 0, none⟩) lr).trans r0, (MSN.out.bel.cell (p := ⟨w1.heap.size, 1, none⟩) lr).trans r1, (MSN.out.bel.cell (p := ⟨w1.heap.size + 1, 0, none⟩) lk).trans k0, (MSN.out.bel.cell (p := ⟨w1.heap.size + 1, 1, none⟩) lk).trans k1⟩
      clear hK K
      try simp only [Act.put, tS]
      refine wpR 13 rfl fun K hK => ?_
      go_simp
      go_at_call 12
      refine hR.mono ?_
      rintro e wz ⟨⟨kz, rfl⟩, kw, hbw⟩
      go_wp2_with fail
      refine hK.out _ _ ?_ (fun hHeld => ?_)
      ·try dsimp only
       exact ⟨(kw.cell (b := w1.heap.size) 0 lr (by omega)).trans r0, (kw.cell (b := w1.heap.size) 1 lr (by omega)).trans r1, (kw.cell (b := w1.heap.size + 1) 0 lk (by omega)).trans k0, (kw.cell (b := w1.heap.size + 1) 1 lk (by omega)).trans k1⟩
      clear hK K
      try simp only [Act.put, tS]
      refine wpAnyH_done (by kernel_rfl) ?_ _
      clear hHeld
      go_wp2_with fail
      go_meet
      exact ⟨kw, hbw⟩
   ·try go_simp
    go_wp2_with fail
    obtain ⟨V72, hV74⟩ : ∃ V72, V72 = V1.alloc (Obj.cells #[.int .u8 116, .int .u8 119, .int .u8 111] 5) := ⟨_, rfl⟩
    have MS73 := Lib.hid (show MvS wx V72 (some V0.heap.size) (some V1.heap.size) (fun _ => False) none by rw [hV74]; exact MS2.out.ay _)
    have U75 : V72.heap[V1.heap.size]? = some (.cells #[.int .u8 116, .int .u8 119, .int .u8 111] 5) := by rw [hV74]; exact (MapKept.heap_alloc V1 _).1
    have bb76 : Below V1.heap.size V1 V72 := by rw [hV74]; exact (Below.refl _ _).alloc (Nat.le_refl _) _
    have z77 := bb76.size
    rw [← hV74]
    clear hV74
    have NE78 : V0.heap.size < V1.heap.size := (MS2.out.hx _ rfl).2.2.1
    have U79 := (bb76.block V0.heap.size (MS2.out.hx _ rfl).2.2.1).trans U4
    refine hK.out _ _ ?_ (fun hHeld => ?_)
    ·try dsimp only
     exact ⟨(MS73.out.bel.cell (p := ⟨w1.heap.size, 0, none⟩) lr).trans r0, (MS73.out.bel.cell (p := ⟨w1.heap.size, 1, none⟩) lr).trans r1, (MS73.out.bel.cell (p := ⟨w1.heap.size + 1, 0, none⟩) lk).trans k0, (MS73.out.bel.cell (p := ⟨w1.heap.size + 1, 1, none⟩) lk).trans k1⟩
    clear hK K
    try simp only [Act.put, tS]
    refine wpAnyH_ready (rs := [3, 8]) (by kernel_rfl) (by simp) ?_
    refine AllReadyH.cons rfl (fun K hK => ?_) (AllReadyH.cons rfl (fun K hK => ?_) AllReadyH.nil)
    ·obtain ⟨V80, hcv82, kk83, cc84⟩ := conv_self V72 V0.heap.size _ U79 3 3
     have MS81 := Lib.hid (MS73.out.conv kk83 cc84 (MS73.out.hx _ rfl).2.1 (MS73.out.hx _ rfl).2.2.2)
     try go_simp
     have U85 := (kk83.block V1.heap.size (MS73.out.hy _ rfl).2.2.1 (fun e => by have e : V1.heap.size = V0.heap.size := e; omega)).trans U75
     clear hcv82
     refine hK.out _ _ ?_ (fun hHeld => ?_)
     ·try dsimp only
      exact ⟨(MS81.out.bel.cell (p := ⟨w1.heap.size, 0, none⟩) lr).trans r0, (MS81.out.bel.cell (p := ⟨w1.heap.size, 1, none⟩) lr).trans r1, (MS81.out.bel.cell (p := ⟨w1.heap.size + 1, 0, none⟩) lk).trans k0, (MS81.out.bel.cell (p := ⟨w1.heap.size + 1, 1, none⟩) lk).trans k1⟩
     clear hK K
     try simp only [Act.put, tS]
     refine wpAnyH_ready (rs := [4, 8]) (by kernel_rfl) (by simp) ?_
     refine AllReadyH.cons rfl (fun K hK => ?_) (AllReadyH.cons rfl (fun K hK => ?_) AllReadyH.nil)
     ·go_simp
      go_at_call 32
      refine (pNew_f 0 64 1 _ 3 3 [111, 110, 101] _ MS81.out.rx (by decide) isOne (by decide) (by decide) (by decide) (by decide)).mono ?_
      rintro e V86 ⟨qp, rfl, hqp, hFp, bb88⟩
      have MS87 := Lib.hid (MS81.out.put bb88 hFp)
      go_wp2_with fail
      have U89 := (bb88.block V1.heap.size (MS81.out.hy _ rfl).2.2.1).trans U85
      refine hK.out _ _ ?_ (fun hHeld => ?_)
      ·try dsimp only
       exact ⟨(MS87.out.bel.cell (p := ⟨w1.heap.size, 0, none⟩) lr).trans r0, (MS87.out.bel.cell (p := ⟨w1.heap.size, 1, none⟩) lr).trans r1, (MS87.out.bel.cell (p := ⟨w1.heap.size + 1, 0, none⟩) lk).trans k0, (MS87.out.bel.cell (p := ⟨w1.heap.size + 1, 1, none⟩) lk).trans k1⟩
      clear hK K
      try simp only [Act.put, tS]
      refine wpT 5 rfl ?_
      try simp only [Act.put, tS]
      refine wpR 8 rfl fun K hK => ?_
      obtain ⟨V90, hcv92, kk93, cc94⟩ := conv_self V86 V1.heap.size _ U89 3 3
      have MS91 := Lib.hid (MS87.out.conv kk93 cc94 (MS87.out.hy _ rfl).2.1 (MS87.out.hy _ rfl).2.2.2)
      try go_simp
      clear hcv92
      refine hK.out _ _ ?_ (fun hHeld => ?_)
      ·try dsimp only
       exact ⟨(MS91.out.bel.cell (p := ⟨w1.heap.size, 0, none⟩) lr).trans r0, (MS91.out.bel.cell (p := ⟨w1.heap.size, 1, none⟩) lr).trans r1, (MS91.out.bel.cell (p := ⟨w1.heap.size + 1, 0, none⟩) lk).trans k0, (MS91.out.bel.cell (p := ⟨w1.heap.size + 1, 1, none⟩) lk).trans k1⟩
      clear hK K
      try simp only [Act.put, tS]
      refine wpR 9 rfl fun K hK => ?_
      go_simp
      go_at_call 10
      refine (sNew_f 96 64 2 _ 3 3 [116, 119, 111] _ MS91.out.ry (by decide) isTwo (by decide) (by decide) (by decide) (by decide)).mono ?_
      rintro e V95 ⟨qs, rfl, hqs, hFs, bb97⟩
      have MS96 := Lib.hid (MS91.out.below bb97)
      have HSF := Lib.hid hFs
      have hsep : ∀ i, (V90.heap.size ≤ i ∧ i < V95.heap.size) → wx.heap.size ≤ i ∧ ¬ (fun k => V80.heap.size ≤ k ∧ k < V86.heap.size) i := fun i hi => ⟨by have := MS91.out.bel.size; omega, fun h => by have := (MS91.out.hF i h).2; omega⟩
      have HSEP := Lib.hid hsep
      clear hsep
      go_wp2_with fail
      refine hK.out _ _ ?_ (fun hHeld => ?_)
      ·try dsimp only
       exact ⟨(MS96.out.bel.cell (p := ⟨w1.heap.size, 0, none⟩) lr).trans r0, (MS96.out.bel.cell (p := ⟨w1.heap.size, 1, none⟩) lr).trans r1, (MS96.out.bel.cell (p := ⟨w1.heap.size + 1, 0, none⟩) lk).trans k0, (MS96.out.bel.cell (p := ⟨w1.heap.size + 1, 1, none⟩) lk).trans k1⟩
      clear hK K
      try simp only [Act.put, tS]
      refine wpT 10 rfl ?_
      try simp only [Act.put, tS]
      refine wpR 11 rfl fun K hK => ?_
      try go_simp
      go_wp2_with fail
      obtain ⟨V98, hV100⟩ : ∃ V98, V98 = V95.alloc (Obj.cells #[.iface 97 (.pointer (some ⟨qp, 0, none⟩)), .iface 35 (.pointer (some ⟨qs, 0, none⟩))] 66) := ⟨_, rfl⟩
      have bb101 : Below V95.heap.size V95 V98 := by rw [hV100]; exact (Below.refl _ _).alloc (Nat.le_refl _) _
      have MS99 := Lib.hid (MS96.out.below bb101)
      have HG2 := Lib.hid (show Blk V98 V95.heap.size [.iface 97 (ptr qp), .iface 35 (ptr qs)] by rw [hV100]; exact Blk.made V95 _ _)
      have HSF2 := Lib.hid (HSF.out.below bb101)
      rw [← hV100]
      clear hV100
      refine hK.out _ _ ?_ (fun hHeld => ?_)
      ·try dsimp only
       exact ⟨(MS99.out.bel.cell (p := ⟨w1.heap.size, 0, none⟩) lr).trans r0, (MS99.out.bel.cell (p := ⟨w1.heap.size, 1, none⟩) lr).trans r1, (MS99.out.bel.cell (p := ⟨w1.heap.size + 1, 0, none⟩) lk).trans k0, (MS99.out.bel.cell (p := ⟨w1.heap.size + 1, 1, none⟩) lk).trans k1⟩
      clear hK K
      try simp only [Act.put, tS]
      refine wpR 12 rfl fun K hK => ?_
      go_simp
      go_at_call 11
      refine (mvRunA MS99.out HSF2.out HSEP.out HB3.out HG2.out).mono ?_
      rintro e wn ⟨VV, rfl, bn, hR⟩
      have MSN := Lib.hid (MS99.out.below bn)
      go_wp2_with fail
      refine hK.out _ _ ?_ (fun hHeld => ?_)
      ·try dsimp only
       exact ⟨(MSN.out.bel.cell (p := ⟨w1.heap.size, 0, none⟩) lr).trans r0, (MSN.out.bel.cell (p := ⟨w1.heap.size, 1, none⟩) lr).trans r1, (MSN.out.bel.cell (p := ⟨w1.heap.size + 1, 0, none⟩) lk).trans k0, (MSN.out.bel.cell (p := ⟨w1.heap.size + 1, 1, none⟩) lk).trans k1⟩
      clear hK K
      try simp only [Act.put, tS]
      refine wpR 13 rfl fun K hK => ?_
      go_simp
      go_at_call 12
      refine hR.mono ?_
      rintro e wz ⟨⟨kz, rfl⟩, kw, hbw⟩
      go_wp2_with fail
      refine hK.out _ _ ?_ (fun hHeld => ?_)
      ·try dsimp only
       exact ⟨(kw.cell (b := w1.heap.size) 0 lr (by omega)).trans r0, (kw.cell (b := w1.heap.size) 1 lr (by omega)).trans r1, (kw.cell (b := w1.heap.size + 1) 0 lk (by omega)).trans k0, (kw.cell (b := w1.heap.size + 1) 1 lk (by omega)).trans k1⟩
      clear hK K
      try simp only [Act.put, tS]
      refine wpAnyH_done (by kernel_rfl) ?_ _
      clear hHeld
      go_wp2_with fail
      go_meet
      exact ⟨kw, hbw⟩
     ·obtain ⟨V102, hcv104, kk105, cc106⟩ := conv_self V80 V1.heap.size _ U85 3 3
      have MS103 := Lib.hid (MS81.out.conv kk105 cc106 (MS81.out.hy _ rfl).2.1 (MS81.out.hy _ rfl).2.2.2)
      try go_simp
      clear hcv104
      refine hK.out _ _ ?_ (fun hHeld => ?_)
      ·try dsimp only
       exact ⟨(MS103.out.bel.cell (p := ⟨w1.heap.size, 0, none⟩) lr).trans r0, (MS103.out.bel.cell (p := ⟨w1.heap.size, 1, none⟩) lr).trans r1, (MS103.out.bel.cell (p := ⟨w1.heap.size + 1, 0, none⟩) lk).trans k0, (MS103.out.bel.cell (p := ⟨w1.heap.size + 1, 1, none⟩) lk).trans k1⟩
      clear hK K
      try simp only [Act.put, tS]
      refine wpR 4 rfl fun K hK => ?_
      go_simp
      go_at_call 32
      refine (pNew_f 0 64 1 _ 3 3 [111, 110, 101] _ MS103.out.rx (by decide) isOne (by decide) (by decide) (by decide) (by decide)).mono ?_
      rintro e V107 ⟨qp, rfl, hqp, hFp, bb109⟩
      have MS108 := Lib.hid (MS103.out.put bb109 hFp)
      go_wp2_with fail
      refine hK.out _ _ ?_ (fun hHeld => ?_)
      ·try dsimp only
       exact ⟨(MS108.out.bel.cell (p := ⟨w1.heap.size, 0, none⟩) lr).trans r0, (MS108.out.bel.cell (p := ⟨w1.heap.size, 1, none⟩) lr).trans r1, (MS108.out.bel.cell (p := ⟨w1.heap.size + 1, 0, none⟩) lk).trans k0, (MS108.out.bel.cell (p := ⟨w1.heap.size + 1, 1, none⟩) lk).trans k1⟩
      clear hK K
      try simp only [Act.put, tS]
      refine wpT 5 rfl ?_
      try simp only [Act.put, tS]
      refine wpR 9 rfl fun K hK => ?_
      go_simp
      go_at_call 10
      refine (sNew_f 96 64 2 _ 3 3 [116, 119, 111] _ MS108.out.ry (by decide) isTwo (by decide) (by decide) (by decide) (by decide)).mono ?_
      rintro e V110 ⟨qs, rfl, hqs, hFs, bb112⟩
      have MS111 := Lib.hid (MS108.out.below bb112)
      have HSF := Lib.hid hFs
      have hsep : ∀ i, (V107.heap.size ≤ i ∧ i < V110.heap.size) → wx.heap.size ≤ i ∧ ¬ (fun k => V102.heap.size ≤ k ∧ k < V107.heap.size) i := fun i hi => ⟨by have := MS108.out.bel.size; omega, fun h => by have := (MS108.out.hF i h).2; omega⟩
      have HSEP := Lib.hid hsep
      clear hsep
      go_wp2_with fail
      refine hK.out _ _ ?_ (fun hHeld => ?_)
      ·try dsimp only
       exact ⟨(MS111.out.bel.cell (p := ⟨w1.heap.size, 0, none⟩) lr).trans r0, (MS111.out.bel.cell (p := ⟨w1.heap.size, 1, none⟩) lr).trans r1, (MS111.out.bel.cell (p := ⟨w1.heap.size + 1, 0, none⟩) lk).trans k0, (MS111.out.bel.cell (p := ⟨w1.heap.size + 1, 1, none⟩) lk).trans k1⟩
      clear hK K
      try simp only [Act.put, tS]
      refine wpT 10 rfl ?_
      try simp only [Act.put, tS]
      refine wpR 11 rfl fun K hK => ?_
      try go_simp
      go_wp2_with fail
      obtain ⟨V113, hV115⟩ : ∃ V113, V113 = V110.alloc (Obj.cells #[.iface 97 (.pointer (some ⟨qp, 0, none⟩)), .iface 35 (.pointer (some ⟨qs, 0, none⟩))] 66) := ⟨_, rfl⟩
      have bb116 : Below V110.heap.size V110 V113 := by rw [hV115]; exact (Below.refl _ _).alloc (Nat.le_refl _) _
      have MS114 := Lib.hid (MS111.out.below bb116)
      have HG2 := Lib.hid (show Blk V113 V110.heap.size [.iface 97 (ptr qp), .iface 35 (ptr qs)] by rw [hV115]; exact Blk.made V110 _ _)
      have HSF2 := Lib.hid (HSF.out.below bb116)
      rw [← hV115]
      clear hV115
      refine hK.out _ _ ?_ (fun hHeld => ?_)
      ·try dsimp only
       exact ⟨(MS114.out.bel.cell (p := ⟨w1.heap.size, 0, none⟩) lr).trans r0, (MS114.out.bel.cell (p := ⟨w1.heap.size, 1, none⟩) lr).trans r1, (MS114.out.bel.cell (p := ⟨w1.heap.size + 1, 0, none⟩) lk).trans k0, (MS114.out.bel.cell (p := ⟨w1.heap.size + 1, 1, none⟩) lk).trans k1⟩
      clear hK K
      try simp only [Act.put, tS]
      refine wpR 12 rfl fun K hK => ?_
      go_simp
      go_at_call 11
      refine (mvRunA MS114.out HSF2.out HSEP.out HB3.out HG2.out).mono ?_
      rintro e wn ⟨VV, rfl, bn, hR⟩
      have MSN := Lib.hid (MS114.out.below bn)
      go_wp2_with fail
      refine hK.out _ _ ?_ (fun hHeld => ?_)
      ·try dsimp only
       exact ⟨(MSN.out.bel.cell (p := ⟨w1.heap.size, 0, none⟩) lr).trans r0, (MSN.out.bel.cell (p := ⟨w1.heap.size, 1, none⟩) lr).trans r1, (MSN.out.bel.cell (p := ⟨w1.heap.size + 1, 0, none⟩) lk).trans k0, (MSN.out.bel.cell (p := ⟨w1.heap.size + 1, 1, none⟩) lk).trans k1⟩
      clear hK K
      try simp only [Act.put, tS]
      refine wpR 13 rfl fun K hK => ?_
      go_simp
      go_at_call 12
      refine hR.mono ?_
      rintro e wz ⟨⟨kz, rfl⟩, kw, hbw⟩
      go_wp2_with fail
      refine hK.out _ _ ?_ (fun hHeld => ?_)
      ·try dsimp only
       exact ⟨(kw.cell (b := w1.heap.size) 0 lr (by omega)).trans r0, (kw.cell (b := w1.heap.size) 1 lr (by omega)).trans r1, (kw.cell (b := w1.heap.size + 1) 0 lk (by omega)).trans k0, (kw.cell (b := w1.heap.size + 1) 1 lk (by omega)).trans k1⟩
      clear hK K
      try simp only [Act.put, tS]
      refine wpAnyH_done (by kernel_rfl) ?_ _
      clear hHeld
      go_wp2_with fail
      go_meet
      exact ⟨kw, hbw⟩
    ·obtain ⟨V117, hcv119, kk120, cc121⟩ := conv_self V72 V1.heap.size _ U75 3 3
     have MS118 := Lib.hid (MS73.out.conv kk120 cc121 (MS73.out.hy _ rfl).2.1 (MS73.out.hy _ rfl).2.2.2)
     try go_simp
     have U122 := (kk120.block V0.heap.size (MS73.out.hx _ rfl).2.2.1 (fun e => by have e : V0.heap.size = V1.heap.size := e; omega)).trans U79
     clear hcv119
     refine hK.out _ _ ?_ (fun hHeld => ?_)
     ·try dsimp only
      exact ⟨(MS118.out.bel.cell (p := ⟨w1.heap.size, 0, none⟩) lr).trans r0, (MS118.out.bel.cell (p := ⟨w1.heap.size, 1, none⟩) lr).trans r1, (MS118.out.bel.cell (p := ⟨w1.heap.size + 1, 0, none⟩) lk).trans k0, (MS118.out.bel.cell (p := ⟨w1.heap.size + 1, 1, none⟩) lk).trans k1⟩
     clear hK K
     try simp only [Act.put, tS]
     refine wpR 3 rfl fun K hK => ?_
     obtain ⟨V123, hcv125, kk126, cc127⟩ := conv_self V117 V0.heap.size _ U122 3 3
     have MS124 := Lib.hid (MS118.out.conv kk126 cc127 (MS118.out.hx _ rfl).2.1 (MS118.out.hx _ rfl).2.2.2)
     try go_simp
     clear hcv125
     refine hK.out _ _ ?_ (fun hHeld => ?_)
     ·try dsimp only
      exact ⟨(MS124.out.bel.cell (p := ⟨w1.heap.size, 0, none⟩) lr).trans r0, (MS124.out.bel.cell (p := ⟨w1.heap.size, 1, none⟩) lr).trans r1, (MS124.out.bel.cell (p := ⟨w1.heap.size + 1, 0, none⟩) lk).trans k0, (MS124.out.bel.cell (p := ⟨w1.heap.size + 1, 1, none⟩) lk).trans k1⟩
     clear hK K
     try simp only [Act.put, tS]
     refine wpR 4 rfl fun K hK => ?_
     go_simp
     go_at_call 32
     refine (pNew_f 0 64 1 _ 3 3 [111, 110, 101] _ MS124.out.rx (by decide) isOne (by decide) (by decide) (by decide) (by decide)).mono ?_
     rintro e V128 ⟨qp, rfl, hqp, hFp, bb130⟩
     have MS129 := Lib.hid (MS124.out.put bb130 hFp)
     go_wp2_with fail
     refine hK.out _ _ ?_ (fun hHeld => ?_)
     ·try dsimp only
      exact ⟨(MS129.out.bel.cell (p := ⟨w1.heap.size, 0, none⟩) lr).trans r0, (MS129.out.bel.cell (p := ⟨w1.heap.size, 1, none⟩) lr).trans r1, (MS129.out.bel.cell (p := ⟨w1.heap.size + 1, 0, none⟩) lk).trans k0, (MS129.out.bel.cell (p := ⟨w1.heap.size + 1, 1, none⟩) lk).trans k1⟩
     clear hK K
     try simp only [Act.put, tS]
     refine wpT 5 rfl ?_
     try simp only [Act.put, tS]
     refine wpR 9 rfl fun K hK => ?_
     go_simp
     go_at_call 10
     refine (sNew_f 96 64 2 _ 3 3 [116, 119, 111] _ MS129.out.ry (by decide) isTwo (by decide) (by decide) (by decide) (by decide)).mono ?_
     rintro e V131 ⟨qs, rfl, hqs, hFs, bb133⟩
     have MS132 := Lib.hid (MS129.out.below bb133)
     have HSF := Lib.hid hFs
     have hsep : ∀ i, (V128.heap.size ≤ i ∧ i < V131.heap.size) → wx.heap.size ≤ i ∧ ¬ (fun k => V123.heap.size ≤ k ∧ k < V128.heap.size) i := fun i hi => ⟨by have := MS129.out.bel.size; omega, fun h => by have := (MS129.out.hF i h).2; omega⟩
     have HSEP := Lib.hid hsep
     clear hsep
     go_wp2_with fail
     refine hK.out _ _ ?_ (fun hHeld => ?_)
     ·try dsimp only
      exact ⟨(MS132.out.bel.cell (p := ⟨w1.heap.size, 0, none⟩) lr).trans r0, (MS132.out.bel.cell (p := ⟨w1.heap.size, 1, none⟩) lr).trans r1, (MS132.out.bel.cell (p := ⟨w1.heap.size + 1, 0, none⟩) lk).trans k0, (MS132.out.bel.cell (p := ⟨w1.heap.size + 1, 1, none⟩) lk).trans k1⟩
     clear hK K
     try simp only [Act.put, tS]
     refine wpT 10 rfl ?_
     try simp only [Act.put, tS]
     refine wpR 11 rfl fun K hK => ?_
     try go_simp
     go_wp2_with fail
     obtain ⟨V134, hV136⟩ : ∃ V134, V134 = V131.alloc (Obj.cells #[.iface 97 (.pointer (some ⟨qp, 0, none⟩)), .iface 35 (.pointer (some ⟨qs, 0, none⟩))] 66) := ⟨_, rfl⟩
     have bb137 : Below V131.heap.size V131 V134 := by rw [hV136]; exact (Below.refl _ _).alloc (Nat.le_refl _) _
     have MS135 := Lib.hid (MS132.out.below bb137)
     have HG2 := Lib.hid (show Blk V134 V131.heap.size [.iface 97 (ptr qp), .iface 35 (ptr qs)] by rw [hV136]; exact Blk.made V131 _ _)
     have HSF2 := Lib.hid (HSF.out.below bb137)
     rw [← hV136]
     clear hV136
     refine hK.out _ _ ?_ (fun hHeld => ?_)
     ·try dsimp only
      exact ⟨(MS135.out.bel.cell (p := ⟨w1.heap.size, 0, none⟩) lr).trans r0, (MS135.out.bel.cell (p := ⟨w1.heap.size, 1, none⟩) lr).trans r1, (MS135.out.bel.cell (p := ⟨w1.heap.size + 1, 0, none⟩) lk).trans k0, (MS135.out.bel.cell (p := ⟨w1.heap.size + 1, 1, none⟩) lk).trans k1⟩
     clear hK K
     try simp only [Act.put, tS]
     refine wpR 12 rfl fun K hK => ?_
     go_simp
     go_at_call 11
     refine (mvRunA MS135.out HSF2.out HSEP.out HB3.out HG2.out).mono ?_
     rintro e wn ⟨VV, rfl, bn, hR⟩
     have MSN := Lib.hid (MS135.out.below bn)
     go_wp2_with fail
     refine hK.out _ _ ?_ (fun hHeld => ?_)
     ·try dsimp only
      exact ⟨(MSN.out.bel.cell (p := ⟨w1.heap.size, 0, none⟩) lr).trans r0, (MSN.out.bel.cell (p := ⟨w1.heap.size, 1, none⟩) lr).trans r1, (MSN.out.bel.cell (p := ⟨w1.heap.size + 1, 0, none⟩) lk).trans k0, (MSN.out.bel.cell (p := ⟨w1.heap.size + 1, 1, none⟩) lk).trans k1⟩
     clear hK K
     try simp only [Act.put, tS]
     refine wpR 13 rfl fun K hK => ?_
     go_simp
     go_at_call 12
     refine hR.mono ?_
     rintro e wz ⟨⟨kz, rfl⟩, kw, hbw⟩
     go_wp2_with fail
     refine hK.out _ _ ?_ (fun hHeld => ?_)
     ·try dsimp only
      exact ⟨(kw.cell (b := w1.heap.size) 0 lr (by omega)).trans r0, (kw.cell (b := w1.heap.size) 1 lr (by omega)).trans r1, (kw.cell (b := w1.heap.size + 1) 0 lk (by omega)).trans k0, (kw.cell (b := w1.heap.size + 1) 1 lk (by omega)).trans k1⟩
     clear hK K
     try simp only [Act.put, tS]
     refine wpAnyH_done (by kernel_rfl) ?_ _
     clear hHeld
     go_wp2_with fail
     go_meet
     exact ⟨kw, hbw⟩
  ·try go_simp
   go_wp2_with fail
   obtain ⟨V138, hV140⟩ : ∃ V138, V138 = V0.alloc (Obj.cells #[.int .u8 116, .int .u8 119, .int .u8 111] 5) := ⟨_, rfl⟩
   have MS139 := Lib.hid (show MvS wx V138 none (some V0.heap.size) (fun _ => False) none by rw [hV140]; exact MS0.out.ay _)
   have U141 : V138.heap[V0.heap.size]? = some (.cells #[.int .u8 116, .int .u8 119, .int .u8 111] 5) := by rw [hV140]; exact (MapKept.heap_alloc V0 _).1
   have bb142 : Below V0.heap.size V0 V138 := by rw [hV140]; exact (Below.refl _ _).alloc (Nat.le_refl _) _
   have z143 := bb142.size
   rw [← hV140]
   clear hV140
   refine hK.out _ _ ?_ (fun hHeld => ?_)
   ·try dsimp only
    exact ⟨(MS139.out.bel.cell (p := ⟨w1.heap.size, 0, none⟩) lr).trans r0, (MS139.out.bel.cell (p := ⟨w1.heap.size, 1, none⟩) lr).trans r1, (MS139.out.bel.cell (p := ⟨w1.heap.size + 1, 0, none⟩) lk).trans k0, (MS139.out.bel.cell (p := ⟨w1.heap.size + 1, 1, none⟩) lk).trans k1⟩
   clear hK K
   try simp only [Act.put, tS]
   refine wpAnyH_ready (rs := [2, 8]) (by kernel_rfl) (by simp) ?_
   refine AllReadyH.cons rfl (fun K hK => ?_) (AllReadyH.cons rfl (fun K hK => ?_) AllReadyH.nil)
   ·try go_simp
    go_wp2_with fail
    obtain ⟨V144, hV146⟩ : ∃ V144, V144 = V138.alloc (Obj.cells #[.int .u8 111, .int .u8 110, .int .u8 101] 5) := ⟨_, rfl⟩
    have MS145 := Lib.hid (show MvS wx V144 (some V138.heap.size) (some V0.heap.size) (fun _ => False) none by rw [hV146]; exact MS139.out.ax _)
    have U147 : V144.heap[V138.heap.size]? = some (.cells #[.int .u8 111, .int .u8 110, .int .u8 101] 5) := by rw [hV146]; exact (MapKept.heap_alloc V138 _).1
    have bb148 : Below V138.heap.size V138 V144 := by rw [hV146]; exact (Below.refl _ _).alloc (Nat.le_refl _) _
    have z149 := bb148.size
    rw [← hV146]
    clear hV146
    have NE150 : V0.heap.size < V138.heap.size := (MS139.out.hy _ rfl).2.2.1
    have U151 := (bb148.block V0.heap.size (MS139.out.hy _ rfl).2.2.1).trans U141
    refine hK.out _ _ ?_ (fun hHeld => ?_)
    ·try dsimp only
     exact ⟨(MS145.out.bel.cell (p := ⟨w1.heap.size, 0, none⟩) lr).trans r0, (MS145.out.bel.cell (p := ⟨w1.heap.size, 1, none⟩) lr).trans r1, (MS145.out.bel.cell (p := ⟨w1.heap.size + 1, 0, none⟩) lk).trans k0, (MS145.out.bel.cell (p := ⟨w1.heap.size + 1, 1, none⟩) lk).trans k1⟩
    clear hK K
    try simp only [Act.put, tS]
    refine wpAnyH_ready (rs := [3, 8]) (by kernel_rfl) (by simp) ?_
    refine AllReadyH.cons rfl (fun K hK => ?_) (AllReadyH.cons rfl (fun K hK => ?_) AllReadyH.nil)
    ·obtain ⟨V152, hcv154, kk155, cc156⟩ := conv_self V144 V138.heap.size _ U147 3 3
     have MS153 := Lib.hid (MS145.out.conv kk155 cc156 (MS145.out.hx _ rfl).2.1 (MS145.out.hx _ rfl).2.2.2)
     try go_simp
     have U157 := (kk155.block V0.heap.size (MS145.out.hy _ rfl).2.2.1 (fun e => by have e : V0.heap.size = V138.heap.size := e; omega)).trans U151
     clear hcv154
     refine hK.out _ _ ?_ (fun hHeld => ?_)
     ·try dsimp only
      exact ⟨(MS153.out.bel.cell (p := ⟨w1.heap.size, 0, none⟩) lr).trans r0, (MS153.out.bel.cell (p := ⟨w1.heap.size, 1, none⟩) lr).trans r1, (MS153.out.bel.cell (p := ⟨w1.heap.size + 1, 0, none⟩) lk).trans k0, (MS153.out.bel.cell (p := ⟨w1.heap.size + 1, 1, none⟩) lk).trans k1⟩
     clear hK K
     try simp only [Act.put, tS]
     refine wpAnyH_ready (rs := [4, 8]) (by kernel_rfl) (by simp) ?_
     refine AllReadyH.cons rfl (fun K hK => ?_) (AllReadyH.cons rfl (fun K hK => ?_) AllReadyH.nil)
     ·go_simp
      go_at_call 32
      refine (pNew_f 0 64 1 _ 3 3 [111, 110, 101] _ MS153.out.rx (by decide) isOne (by decide) (by decide) (by decide) (by decide)).mono ?_
      rintro e V158 ⟨qp, rfl, hqp, hFp, bb160⟩
      have MS159 := Lib.hid (MS153.out.put bb160 hFp)
      go_wp2_with fail
      have U161 := (bb160.block V0.heap.size (MS153.out.hy _ rfl).2.2.1).trans U157
      refine hK.out _ _ ?_ (fun hHeld => ?_)
      ·try dsimp only
       exact ⟨(MS159.out.bel.cell (p := ⟨w1.heap.size, 0, none⟩) lr).trans r0, (MS159.out.bel.cell (p := ⟨w1.heap.size, 1, none⟩) lr).trans r1, (MS159.out.bel.cell (p := ⟨w1.heap.size + 1, 0, none⟩) lk).trans k0, (MS159.out.bel.cell (p := ⟨w1.heap.size + 1, 1, none⟩) lk).trans k1⟩
      clear hK K
      try simp only [Act.put, tS]
      refine wpT 5 rfl ?_
      try simp only [Act.put, tS]
      refine wpR 8 rfl fun K hK => ?_
      obtain ⟨V162, hcv164, kk165, cc166⟩ := conv_self V158 V0.heap.size _ U161 3 3
      have MS163 := Lib.hid (MS159.out.conv kk165 cc166 (MS159.out.hy _ rfl).2.1 (MS159.out.hy _ rfl).2.2.2)
      try go_simp
      clear hcv164
      refine hK.out _ _ ?_ (fun hHeld => ?_)
      ·try dsimp only
       exact ⟨(MS163.out.bel.cell (p := ⟨w1.heap.size, 0, none⟩) lr).trans r0, (MS163.out.bel.cell (p := ⟨w1.heap.size, 1, none⟩) lr).trans r1, (MS163.out.bel.cell (p := ⟨w1.heap.size + 1, 0, none⟩) lk).trans k0, (MS163.out.bel.cell (p := ⟨w1.heap.size + 1, 1, none⟩) lk).trans k1⟩
      clear hK K
      try simp only [Act.put, tS]
      refine wpR 9 rfl fun K hK => ?_
      go_simp
      go_at_call 10
      refine (sNew_f 96 64 2 _ 3 3 [116, 119, 111] _ MS163.out.ry (by decide) isTwo (by decide) (by decide) (by decide) (by decide)).mono ?_
      rintro e V167 ⟨qs, rfl, hqs, hFs, bb169⟩
      have MS168 := Lib.hid (MS163.out.below bb169)
      have HSF := Lib.hid hFs
      have hsep : ∀ i, (V162.heap.size ≤ i ∧ i < V167.heap.size) → wx.heap.size ≤ i ∧ ¬ (fun k => V152.heap.size ≤ k ∧ k < V158.heap.size) i := fun i hi => ⟨by have := MS163.out.bel.size; omega, fun h => by have := (MS163.out.hF i h).2; omega⟩
      have HSEP := Lib.hid hsep
      clear hsep
      go_wp2_with fail
      refine hK.out _ _ ?_ (fun hHeld => ?_)
      ·try dsimp only
       exact ⟨(MS168.out.bel.cell (p := ⟨w1.heap.size, 0, none⟩) lr).trans r0, (MS168.out.bel.cell (p := ⟨w1.heap.size, 1, none⟩) lr).trans r1, (MS168.out.bel.cell (p := ⟨w1.heap.size + 1, 0, none⟩) lk).trans k0, (MS168.out.bel.cell (p := ⟨w1.heap.size + 1, 1, none⟩) lk).trans k1⟩
      clear hK K
      try simp only [Act.put, tS]
      refine wpT 10 rfl ?_
      try simp only [Act.put, tS]
      refine wpR 11 rfl fun K hK => ?_
      try go_simp
      go_wp2_with fail
      obtain ⟨V170, hV172⟩ : ∃ V170, V170 = V167.alloc (Obj.cells #[.iface 97 (.pointer (some ⟨qp, 0, none⟩)), .iface 35 (.pointer (some ⟨qs, 0, none⟩))] 66) := ⟨_, rfl⟩
      have bb173 : Below V167.heap.size V167 V170 := by rw [hV172]; exact (Below.refl _ _).alloc (Nat.le_refl _) _
      have MS171 := Lib.hid (MS168.out.below bb173)
      have HG2 := Lib.hid (show Blk V170 V167.heap.size [.iface 97 (ptr qp), .iface 35 (ptr qs)] by rw [hV172]; exact Blk.made V167 _ _)
      have HSF2 := Lib.hid (HSF.out.below bb173)
      rw [← hV172]
      clear hV172
      refine hK.out _ _ ?_ (fun hHeld => ?_)
      ·try dsimp only
       exact ⟨(MS171.out.bel.cell (p := ⟨w1.heap.size, 0, none⟩) lr).trans r0, (MS171.out.bel.cell (p := ⟨w1.heap.size, 1, none⟩) lr).trans r1, (MS171.out.bel.cell (p := ⟨w1.heap.size + 1, 0, none⟩) lk).trans k0, (MS171.out.bel.cell (p := ⟨w1.heap.size + 1, 1, none⟩) lk).trans k1⟩
      clear hK K
      try simp only [Act.put, tS]
      refine wpR 12 rfl fun K hK => ?_
      go_simp
      go_at_call 11
      refine (mvRunA MS171.out HSF2.out HSEP.out HB3.out HG2.out).mono ?_
      rintro e wn ⟨VV, rfl, bn, hR⟩
      have MSN := Lib.hid (MS171.out.below bn)
      go_wp2_with fail
      refine hK.out _ _ ?_ (fun hHeld => ?_)
      ·try dsimp only
       exact ⟨(MSN.out.bel.cell (p := ⟨w1.heap.size, 0, none⟩) lr).trans r0, (MSN.out.bel.cell (p := ⟨w1.heap.size, 1, none⟩) lr).trans r1, (MSN.out.bel.cell (p := ⟨w1.heap.size + 1, 0, none⟩) lk).trans k0, (MSN.out.bel.cell (p := ⟨w1.heap.size + 1, 1, none⟩) lk).trans k1⟩
      clear hK K
      try simp only [Act.put, tS]
      refine wpR 13 rfl fun K hK => ?_
      go_simp
      go_at_call 12
      refine hR.mono ?_
      rintro e wz ⟨⟨kz, rfl⟩, kw, hbw⟩
      go_wp2_with fail
      refine hK.out _ _ ?_ (fun hHeld => ?_)
      ·try dsimp only
       exact ⟨(kw.cell (b := w1.heap.size) 0 lr (by omega)).trans r0, (kw.cell (b := w1.heap.size) 1 lr (by omega)).trans r1, (kw.cell (b := w1.heap.size + 1) 0 lk (by omega)).trans k0, (kw.cell (b := w1.heap.size + 1) 1 lk (by omega)).trans k1⟩
      clear hK K
      try simp only [Act.put, tS]
      refine wpAnyH_done (by kernel_rfl) ?_ _
      clear hHeld
      go_wp2_with fail
      go_meet
      exact ⟨kw, hbw⟩
     ·obtain ⟨V174, hcv176, kk177, cc178⟩ := conv_self V152 V0.heap.size _ U157 3 3
      have MS175 := Lib.hid (MS153.out.conv kk177 cc178 (MS153.out.hy _ rfl).2.1 (MS153.out.hy _ rfl).2.2.2)
      try go_simp
      clear hcv176
      refine hK.out _ _ ?_ (fun hHeld => ?_)
      ·try dsimp only
       exact ⟨(MS175.out.bel.cell (p := ⟨w1.heap.size, 0, none⟩) lr).trans r0, (MS175.out.bel.cell (p := ⟨w1.heap.size, 1, none⟩) lr).trans r1, (MS175.out.bel.cell (p := ⟨w1.heap.size + 1, 0, none⟩) lk).trans k0, (MS175.out.bel.cell (p := ⟨w1.heap.size + 1, 1, none⟩) lk).trans k1⟩
      clear hK K
      try simp only [Act.put, tS]
      refine wpR 4 rfl fun K hK => ?_
      go_simp
      go_at_call 32
      refine (pNew_f 0 64 1 _ 3 3 [111, 110, 101] _ MS175.out.rx (by decide) isOne (by decide) (by decide) (by decide) (by decide)).mono ?_
      rintro e V179 ⟨qp, rfl, hqp, hFp, bb181⟩
      have MS180 := Lib.hid (MS175.out.put bb181 hFp)
      go_wp2_with fail
      refine hK.out _ _ ?_ (fun hHeld => ?_)
      ·try dsimp only
       exact ⟨(MS180.out.bel.cell (p := ⟨w1.heap.size, 0, none⟩) lr).trans r0, (MS180.out.bel.cell (p := ⟨w1.heap.size, 1, none⟩) lr).trans r1, (MS180.out.bel.cell (p := ⟨w1.heap.size + 1, 0, none⟩) lk).trans k0, (MS180.out.bel.cell (p := ⟨w1.heap.size + 1, 1, none⟩) lk).trans k1⟩
      clear hK K
      try simp only [Act.put, tS]
      refine wpT 5 rfl ?_
      try simp only [Act.put, tS]
      refine wpR 9 rfl fun K hK => ?_
      go_simp
      go_at_call 10
      refine (sNew_f 96 64 2 _ 3 3 [116, 119, 111] _ MS180.out.ry (by decide) isTwo (by decide) (by decide) (by decide) (by decide)).mono ?_
      rintro e V182 ⟨qs, rfl, hqs, hFs, bb184⟩
      have MS183 := Lib.hid (MS180.out.below bb184)
      have HSF := Lib.hid hFs
      have hsep : ∀ i, (V179.heap.size ≤ i ∧ i < V182.heap.size) → wx.heap.size ≤ i ∧ ¬ (fun k => V174.heap.size ≤ k ∧ k < V179.heap.size) i := fun i hi => ⟨by have := MS180.out.bel.size; omega, fun h => by have := (MS180.out.hF i h).2; omega⟩
      have HSEP := Lib.hid hsep
      clear hsep
      go_wp2_with fail
      refine hK.out _ _ ?_ (fun hHeld => ?_)
      ·try dsimp only
       exact ⟨(MS183.out.bel.cell (p := ⟨w1.heap.size, 0, none⟩) lr).trans r0, (MS183.out.bel.cell (p := ⟨w1.heap.size, 1, none⟩) lr).trans r1, (MS183.out.bel.cell (p := ⟨w1.heap.size + 1, 0, none⟩) lk).trans k0, (MS183.out.bel.cell (p := ⟨w1.heap.size + 1, 1, none⟩) lk).trans k1⟩
      clear hK K
      try simp only [Act.put, tS]
      refine wpT 10 rfl ?_
      try simp only [Act.put, tS]
      refine wpR 11 rfl fun K hK => ?_
      try go_simp
      go_wp2_with fail
      obtain ⟨V185, hV187⟩ : ∃ V185, V185 = V182.alloc (Obj.cells #[.iface 97 (.pointer (some ⟨qp, 0, none⟩)), .iface 35 (.pointer (some ⟨qs, 0, none⟩))] 66) := ⟨_, rfl⟩
      have bb188 : Below V182.heap.size V182 V185 := by rw [hV187]; exact (Below.refl _ _).alloc (Nat.le_refl _) _
      have MS186 := Lib.hid (MS183.out.below bb188)
      have HG2 := Lib.hid (show Blk V185 V182.heap.size [.iface 97 (ptr qp), .iface 35 (ptr qs)] by rw [hV187]; exact Blk.made V182 _ _)
      have HSF2 := Lib.hid (HSF.out.below bb188)
      rw [← hV187]
      clear hV187
      refine hK.out _ _ ?_ (fun hHeld => ?_)
      ·try dsimp only
       exact ⟨(MS186.out.bel.cell (p := ⟨w1.heap.size, 0, none⟩) lr).trans r0, (MS186.out.bel.cell (p := ⟨w1.heap.size, 1, none⟩) lr).trans r1, (MS186.out.bel.cell (p := ⟨w1.heap.size + 1, 0, none⟩) lk).trans k0, (MS186.out.bel.cell (p := ⟨w1.heap.size + 1, 1, none⟩) lk).trans k1⟩
      clear hK K
      try simp only [Act.put, tS]
      refine wpR 12 rfl fun K hK => ?_
      go_simp
      go_at_call 11
      refine (mvRunA MS186.out HSF2.out HSEP.out HB3.out HG2.out).mono ?_
      rintro e wn ⟨VV, rfl, bn, hR⟩
      have MSN := Lib.hid (MS186.out.below bn)
      go_wp2_with fail
      refine hK.out _ _ ?_ (fun hHeld => ?_)
      ·try dsimp only
       exact ⟨(MSN.out.bel.cell (p := ⟨w1.heap.size, 0, none⟩) lr).trans r0, (MSN.out.bel.cell (p := ⟨w1.heap.size, 1, none⟩) lr).trans r1, (MSN.out.bel.cell (p := ⟨w1.heap.size + 1, 0, none⟩) lk).trans k0, (MSN.out.bel.cell (p := ⟨w1.heap.size + 1, 1, none⟩) lk).trans k1⟩
      clear hK K
      try simp only [Act.put, tS]
      refine wpR 13 rfl fun K hK => ?_
      go_simp
      go_at_call 12
      refine hR.mono ?_
      rintro e wz ⟨⟨kz, rfl⟩, kw, hbw⟩
      go_wp2_with fail
      refine hK.out _ _ ?_ (fun hHeld => ?_)
      ·try dsimp only
       exact ⟨(kw.cell (b := w1.heap.size) 0 lr (by omega)).trans r0, (kw.cell (b := w1.heap.size) 1 lr (by omega)).trans r1, (kw.cell (b := w1.heap.size + 1) 0 lk (by omega)).trans k0, (kw.cell (b := w1.heap.size + 1) 1 lk (by omega)).trans k1⟩
      clear hK K
      try simp only [Act.put, tS]
      refine wpAnyH_done (by kernel_rfl) ?_ _
      clear hHeld
      go_wp2_with fail
      go_meet
      exact ⟨kw, hbw⟩
    ·obtain ⟨V189, hcv191, kk192, cc193⟩ := conv_self V144 V0.heap.size _ U151 3 3
     have MS190 := Lib.hid (MS145.out.conv kk192 cc193 (MS145.out.hy _ rfl).2.1 (MS145.out.hy _ rfl).2.2.2)
     try go_simp
     have U194 := (kk192.block V138.heap.size (MS145.out.hx _ rfl).2.2.1 (fun e => by have e : V138.heap.size = V0.heap.size := e; omega)).trans U147
     clear hcv191
     refine hK.out _ _ ?_ (fun hHeld => ?_)
     ·try dsimp only
      exact ⟨(MS190.out.bel.cell (p := ⟨w1.heap.size, 0, none⟩) lr).trans r0, (MS190.out.bel.cell (p := ⟨w1.heap.size, 1, none⟩) lr).trans r1, (MS190.out.bel.cell (p := ⟨w1.heap.size + 1, 0, none⟩) lk).trans k0, (MS190.out.bel.cell (p := ⟨w1.heap.size + 1, 1, none⟩) lk).trans k1⟩
     clear hK K
     try simp only [Act.put, tS]
     refine wpR 3 rfl fun K hK => ?_
     obtain ⟨V195, hcv197, kk198, cc199⟩ := conv_self V189 V138.heap.size _ U194 3 3
     have MS196 := Lib.hid (MS190.out.conv kk198 cc199 (MS190.out.hx _ rfl).2.1 (MS190.out.hx _ rfl).2.2.2)
     try go_simp
     clear hcv197
     refine hK.out _ _ ?_ (fun hHeld => ?_)
     ·try dsimp only
      exact ⟨(MS196.out.bel.cell (p := ⟨w1.heap.size, 0, none⟩) lr).trans r0, (MS196.out.bel.cell (p := ⟨w1.heap.size, 1, none⟩) lr).trans r1, (MS196.out.bel.cell (p := ⟨w1.heap.size + 1, 0, none⟩) lk).trans k0, (MS196.out.bel.cell (p := ⟨w1.heap.size + 1, 1, none⟩) lk).trans k1⟩
     clear hK K
     try simp only [Act.put, tS]
     refine wpR 4 rfl fun K hK => ?_
     go_simp
     go_at_call 32
     refine (pNew_f 0 64 1 _ 3 3 [111, 110, 101] _ MS196.out.rx (by decide) isOne (by decide) (by decide) (by decide) (by decide)).mono ?_
     rintro e V200 ⟨qp, rfl, hqp, hFp, bb202⟩
     have MS201 := Lib.hid (MS196.out.put bb202 hFp)
     go_wp2_with fail
     refine hK.out _ _ ?_ (fun hHeld => ?_)
     ·try dsimp only
      exact ⟨(MS201.out.bel.cell (p := ⟨w1.heap.size, 0, none⟩) lr).trans r0, (MS201.out.bel.cell (p := ⟨w1.heap.size, 1, none⟩) lr).trans r1, (MS201.out.bel.cell (p := ⟨w1.heap.size + 1, 0, none⟩) lk).trans k0, (MS201.out.bel.cell (p := ⟨w1.heap.size + 1, 1, none⟩) lk).trans k1⟩
     clear hK K
     try simp only [Act.put, tS]
     refine wpT 5 rfl ?_
     try simp only [Act.put, tS]
     refine wpR 9 rfl fun K hK => ?_
     go_simp
     go_at_call 10
     refine (sNew_f 96 64 2 _ 3 3 [116, 119, 111] _ MS201.out.ry (by decide) isTwo (by decide) (by decide) (by decide) (by decide)).mono ?_
     rintro e V203 ⟨qs, rfl, hqs, hFs, bb205⟩
     have MS204 := Lib.hid (MS201.out.below bb205)
     have HSF := Lib.hid hFs
     have hsep : ∀ i, (V200.heap.size ≤ i ∧ i < V203.heap.size) → wx.heap.size ≤ i ∧ ¬ (fun k => V195.heap.size ≤ k ∧ k < V200.heap.size) i := fun i hi => ⟨by have := MS201.out.bel.size; omega, fun h => by have := (MS201.out.hF i h).2; omega⟩
     have HSEP := Lib.hid hsep
     clear hsep
     go_wp2_with fail
     refine hK.out _ _ ?_ (fun hHeld => ?_)
     ·try dsimp only
      exact ⟨(MS204.out.bel.cell (p := ⟨w1.heap.size, 0, none⟩) lr).trans r0, (MS204.out.bel.cell (p := ⟨w1.heap.size, 1, none⟩) lr).trans r1, (MS204.out.bel.cell (p := ⟨w1.heap.size + 1, 0, none⟩) lk).trans k0, (MS204.out.bel.cell (p := ⟨w1.heap.size + 1, 1, none⟩) lk).trans k1⟩
     clear hK K
     try simp only [Act.put, tS]
     refine wpT 10 rfl ?_
     try simp only [Act.put, tS]
     refine wpR 11 rfl fun K hK => ?_
     try go_simp
     go_wp2_with fail
     obtain ⟨V206, hV208⟩ : ∃ V206, V206 = V203.alloc (Obj.cells #[.iface 97 (.pointer (some ⟨qp, 0, none⟩)), .iface 35 (.pointer (some ⟨qs, 0, none⟩))] 66) := ⟨_, rfl⟩
     have bb209 : Below V203.heap.size V203 V206 := by rw [hV208]; exact (Below.refl _ _).alloc (Nat.le_refl _) _
     have MS207 := Lib.hid (MS204.out.below bb209)
     have HG2 := Lib.hid (show Blk V206 V203.heap.size [.iface 97 (ptr qp), .iface 35 (ptr qs)] by rw [hV208]; exact Blk.made V203 _ _)
     have HSF2 := Lib.hid (HSF.out.below bb209)
     rw [← hV208]
     clear hV208
     refine hK.out _ _ ?_ (fun hHeld => ?_)
     ·try dsimp only
      exact ⟨(MS207.out.bel.cell (p := ⟨w1.heap.size, 0, none⟩) lr).trans r0, (MS207.out.bel.cell (p := ⟨w1.heap.size, 1, none⟩) lr).trans r1, (MS207.out.bel.cell (p := ⟨w1.heap.size + 1, 0, none⟩) lk).trans k0, (MS207.out.bel.cell (p := ⟨w1.heap.size + 1, 1, none⟩) lk).trans k1⟩
     clear hK K
     try simp only [Act.put, tS]
     refine wpR 12 rfl fun K hK => ?_
     go_simp
     go_at_call 11
     refine (mvRunA MS207.out HSF2.out HSEP.out HB3.out HG2.out).mono ?_
     rintro e wn ⟨VV, rfl, bn, hR⟩
     have MSN := Lib.hid (MS207.out.below bn)
     go_wp2_with fail
     refine hK.out _ _ ?_ (fun hHeld => ?_)
     ·try dsimp only
      exact ⟨(MSN.out.bel.cell (p := ⟨w1.heap.size, 0, none⟩) lr).trans r0, (MSN.out.bel.cell (p := ⟨w1.heap.size, 1, none⟩) lr).trans r1, (MSN.out.bel.cell (p := ⟨w1.heap.size + 1, 0, none⟩) lk).trans k0, (MSN.out.bel.cell (p := ⟨w1.heap.size + 1, 1, none⟩) lk).trans k1⟩
     clear hK K
     try simp only [Act.put, tS]
     refine wpR 13 rfl fun K hK => ?_
     go_simp
     go_at_call 12
     refine hR.mono ?_
     rintro e wz ⟨⟨kz, rfl⟩, kw, hbw⟩
     go_wp2_with fail
     refine hK.out _ _ ?_ (fun hHeld => ?_)
     ·try dsimp only
      exact ⟨(kw.cell (b := w1.heap.size) 0 lr (by omega)).trans r0, (kw.cell (b := w1.heap.size) 1 lr (by omega)).trans r1, (kw.cell (b := w1.heap.size + 1) 0 lk (by omega)).trans k0, (kw.cell (b := w1.heap.size + 1) 1 lk (by omega)).trans k1⟩
     clear hK K
     try simp only [Act.put, tS]
     refine wpAnyH_done (by kernel_rfl) ?_ _
     clear hHeld
     go_wp2_with fail
     go_meet
     exact ⟨kw, hbw⟩
   ·obtain ⟨V210, hcv212, kk213, cc214⟩ := conv_self V138 V0.heap.size _ U141 3 3
    have MS211 := Lib.hid (MS139.out.conv kk213 cc214 (MS139.out.hy _ rfl).2.1 (MS139.out.hy _ rfl).2.2.2)
    try go_simp
    clear hcv212
    refine hK.out _ _ ?_ (fun hHeld => ?_)
    ·try dsimp only
     exact ⟨(MS211.out.bel.cell (p := ⟨w1.heap.size, 0, none⟩) lr).trans r0, (MS211.out.bel.cell (p := ⟨w1.heap.size, 1, none⟩) lr).trans r1, (MS211.out.bel.cell (p := ⟨w1.heap.size + 1, 0, none⟩) lk).trans k0, (MS211.out.bel.cell (p := ⟨w1.heap.size + 1, 1, none⟩) lk).trans k1⟩
    clear hK K
    try simp only [Act.put, tS]
    refine wpR 2 rfl fun K hK => ?_
    try go_simp
    go_wp2_with fail
    obtain ⟨V215, hV217⟩ : ∃ V215, V215 = V210.alloc (Obj.cells #[.int .u8 111, .int .u8 110, .int .u8 101] 5) := ⟨_, rfl⟩
    have MS216 := Lib.hid (show MvS wx V215 (some V210.heap.size) (some V0.heap.size) (fun _ => False) none by rw [hV217]; exact MS211.out.ax _)
    have U218 : V215.heap[V210.heap.size]? = some (.cells #[.int .u8 111, .int .u8 110, .int .u8 101] 5) := by rw [hV217]; exact (MapKept.heap_alloc V210 _).1
    have bb219 : Below V210.heap.size V210 V215 := by rw [hV217]; exact (Below.refl _ _).alloc (Nat.le_refl _) _
    have z220 := bb219.size
    rw [← hV217]
    clear hV217
    have NE221 : V0.heap.size < V210.heap.size := (MS211.out.hy _ rfl).2.2.1
    refine hK.out _ _ ?_ (fun hHeld => ?_)
    ·try dsimp only
     exact ⟨(MS216.out.bel.cell (p := ⟨w1.heap.size, 0, none⟩) lr).trans r0, (MS216.out.bel.cell (p := ⟨w1.heap.size, 1, none⟩) lr).trans r1, (MS216.out.bel.cell (p := ⟨w1.heap.size + 1, 0, none⟩) lk).trans k0, (MS216.out.bel.cell (p := ⟨w1.heap.size + 1, 1, none⟩) lk).trans k1⟩
    clear hK K
    try simp only [Act.put, tS]
    refine wpR 3 rfl fun K hK => ?_
    obtain ⟨V222, hcv224, kk225, cc226⟩ := conv_self V215 V210.heap.size _ U218 3 3
    have MS223 := Lib.hid (MS216.out.conv kk225 cc226 (MS216.out.hx _ rfl).2.1 (MS216.out.hx _ rfl).2.2.2)
    try go_simp
    clear hcv224
    refine hK.out _ _ ?_ (fun hHeld => ?_)
    ·try dsimp only
     exact ⟨(MS223.out.bel.cell (p := ⟨w1.heap.size, 0, none⟩) lr).trans r0, (MS223.out.bel.cell (p := ⟨w1.heap.size, 1, none⟩) lr).trans r1, (MS223.out.bel.cell (p := ⟨w1.heap.size + 1, 0, none⟩) lk).trans k0, (MS223.out.bel.cell (p := ⟨w1.heap.size + 1, 1, none⟩) lk).trans k1⟩
    clear hK K
    try simp only [Act.put, tS]
    refine wpR 4 rfl fun K hK => ?_
    go_simp
    go_at_call 32
    refine (pNew_f 0 64 1 _ 3 3 [111, 110, 101] _ MS223.out.rx (by decide) isOne (by decide) (by decide) (by decide) (by decide)).mono ?_
    rintro e V227 ⟨qp, rfl, hqp, hFp, bb229⟩
    have MS228 := Lib.hid (MS223.out.put bb229 hFp)
    go_wp2_with fail
    refine hK.out _ _ ?_ (fun hHeld => ?_)
    ·try dsimp only
     exact ⟨(MS228.out.bel.cell (p := ⟨w1.heap.size, 0, none⟩) lr).trans r0, (MS228.out.bel.cell (p := ⟨w1.heap.size, 1, none⟩) lr).trans r1, (MS228.out.bel.cell (p := ⟨w1.heap.size + 1, 0, none⟩) lk).trans k0, (MS228.out.bel.cell (p := ⟨w1.heap.size + 1, 1, none⟩) lk).trans k1⟩
    clear hK K
    try simp only [Act.put, tS]
    refine wpT 5 rfl ?_
    try simp only [Act.put, tS]
    refine wpR 9 rfl fun K hK => ?_
    go_simp
    go_at_call 10
    refine (sNew_f 96 64 2 _ 3 3 [116, 119, 111] _ MS228.out.ry (by decide) isTwo (by decide) (by decide) (by decide) (by decide)).mono ?_
    rintro e V230 ⟨qs, rfl, hqs, hFs, bb232⟩
    have MS231 := Lib.hid (MS228.out.below bb232)
    have HSF := Lib.hid hFs
    have hsep : ∀ i, (V227.heap.size ≤ i ∧ i < V230.heap.size) → wx.heap.size ≤ i ∧ ¬ (fun k => V222.heap.size ≤ k ∧ k < V227.heap.size) i := fun i hi => ⟨by have := MS228.out.bel.size; omega, fun h => by have := (MS228.out.hF i h).2; omega⟩
    have HSEP := Lib.hid hsep
    clear hsep
    go_wp2_with fail
    refine hK.out _ _ ?_ (fun hHeld => ?_)
    ·try dsimp only
     exact ⟨(MS231.out.bel.cell (p := ⟨w1.heap.size, 0, none⟩) lr).trans r0, (MS231.out.bel.cell (p := ⟨w1.heap.size, 1, none⟩) lr).trans r1, (MS231.out.bel.cell (p := ⟨w1.heap.size + 1, 0, none⟩) lk).trans k0, (MS231.out.bel.cell (p := ⟨w1.heap.size + 1, 1, none⟩) lk).trans k1⟩
    clear hK K
    try simp only [Act.put, tS]
    refine wpT 10 rfl ?_
    try simp only [Act.put, tS]
    refine wpR 11 rfl fun K hK => ?_
    try go_simp
    go_wp2_with fail
    obtain ⟨V233, hV235⟩ : ∃ V233, V233 = V230.alloc (Obj.cells #[.iface 97 (.pointer (some ⟨qp, 0, none⟩)), .iface 35 (.pointer (some ⟨qs, 0, none⟩))] 66) := ⟨_, rfl⟩
    have bb236 : Below V230.heap.size V230 V233 := by rw [hV235]; exact (Below.refl _ _).alloc (Nat.le_refl _) _
    have MS234 := Lib.hid (MS231.out.below bb236)
    have HG2 := Lib.hid (show Blk V233 V230.heap.size [.iface 97 (ptr qp), .iface 35 (ptr qs)] by rw [hV235]; exact Blk.made V230 _ _)
    have HSF2 := Lib.hid (HSF.out.below bb236)
    rw [← hV235]
    clear hV235
    refine hK.out _ _ ?_ (fun hHeld => ?_)
    ·try dsimp only
     exact ⟨(MS234.out.bel.cell (p := ⟨w1.heap.size, 0, none⟩) lr).trans r0, (MS234.out.bel.cell (p := ⟨w1.heap.size, 1, none⟩) lr).trans r1, (MS234.out.bel.cell (p := ⟨w1.heap.size + 1, 0, none⟩) lk).trans k0, (MS234.out.bel.cell (p := ⟨w1.heap.size + 1, 1, none⟩) lk).trans k1⟩
    clear hK K
    try simp only [Act.put, tS]
    refine wpR 12 rfl fun K hK => ?_
    go_simp
    go_at_call 11
    refine (mvRunA MS234.out HSF2.out HSEP.out HB3.out HG2.out).mono ?_
    rintro e wn ⟨VV, rfl, bn, hR⟩
    have MSN := Lib.hid (MS234.out.below bn)
    go_wp2_with fail
    refine hK.out _ _ ?_ (fun hHeld => ?_)
    ·try dsimp only
     exact ⟨(MSN.out.bel.cell (p := ⟨w1.heap.size, 0, none⟩) lr).trans r0, (MSN.out.bel.cell (p := ⟨w1.heap.size, 1, none⟩) lr).trans r1, (MSN.out.bel.cell (p := ⟨w1.heap.size + 1, 0, none⟩) lk).trans k0, (MSN.out.bel.cell (p := ⟨w1.heap.size + 1, 1, none⟩) lk).trans k1⟩
    clear hK K
    try simp only [Act.put, tS]
    refine wpR 13 rfl fun K hK => ?_
    go_simp
    go_at_call 12
    refine hR.mono ?_
    rintro e wz ⟨⟨kz, rfl⟩, kw, hbw⟩
    go_wp2_with fail
    refine hK.out _ _ ?_ (fun hHeld => ?_)
    ·try dsimp only
     exact ⟨(kw.cell (b := w1.heap.size) 0 lr (by omega)).trans r0, (kw.cell (b := w1.heap.size) 1 lr (by omega)).trans r1, (kw.cell (b := w1.heap.size + 1) 0 lk (by omega)).trans k0, (kw.cell (b := w1.heap.size + 1) 1 lk (by omega)).trans k1⟩
    clear hK K
    try simp only [Act.put, tS]
    refine wpAnyH_done (by kernel_rfl) ?_ _
    clear hHeld
    go_wp2_with fail
    go_meet
    exact ⟨kw, hbw⟩
 case rest =>
  obtain ⟨kw, hbw⟩ := hcut
  have hFXk : ∀ i, Fx i → ¬ (i = p ∨ i = c) := fun i hi hh => by have := HFX.out i hi; have := zg; omega
  have hFGk : ∀ i, (w2.heap.size ≤ i ∧ i < wg.heap.size) → ¬ (i = p ∨ i = c) := fun i hi hh => by omega
  obtain ⟨g1, g2, g3, gO, gR, gov, g4, g5⟩ := getFam.keep (s := (qg, GetC.init ⟨0, 64, 1⟩)) ⟨rfl, HG.out⟩ kw (fun i hi => hFGk i (by simpa using hi)) |>.2
  have HG4 := Lib.hid (show GetF wc _ qg (GetC.init ⟨0, 64, 1⟩) from ⟨g1, g2, g3, gO, gR, gov, g4, g5⟩)
  have HX4 := Lib.hid (show RelF wc Fx qx (relC.start (⟨96, 64, ⟨0, 0, 0⟩, 1, [], 0⟩ : RelT)) from relFam.keep HX.out kw hFXk)
  have HB4 := Lib.hid hbw
  have zw := kw.size
  have KW := Lib.hid kw
  clear kw hbw hFXk hFGk g1 g2 g3 g4 g5
  go_wp2_with fail
  obtain ⟨w5, hw5⟩ : ∃ w5, w5 = wc.alloc (Obj.cells #[.iface 95 (.pointer (some ⟨qg, 0, none⟩)), .iface 43 (.pointer (some ⟨qx, 0, none⟩))] 66) := ⟨_, rfl⟩
  have b5 : Below wc.heap.size wc w5 := by rw [hw5]; exact (Below.refl _ _).alloc (Nat.le_refl _) _
  have G5 := Lib.hid (show Blk w5 wc.heap.size [.iface 95 (ptr qg), .iface 43 (ptr qx)] by rw [hw5]; exact Blk.made wc _ _)
  rw [← hw5]
  clear hw5
  have HG5 := Lib.hid (getFam.keep (s := (qg, GetC.init ⟨0, 64, 1⟩)) ⟨rfl, HG4.out⟩ (Below.keeps (M := fun _ => False) b5) (fun _ _ => id)).2
  have HX5 := Lib.hid (HX4.out.below b5)
  have HB5 := Lib.hid (HB4.out.belows b5)
  have B5 := Lib.hid b5
  have z5 := b5.size
  clear b5
  refine (mvRunB HB5.out HG5.out HX5.out ⟨fun h => by have h : w2.drew.heap.size ≤ p ∧ p < wg.heap.size := h; simp at h; omega, fun h => by have := HFX.out _ h; omega⟩ ⟨fun h => by have h : w2.drew.heap.size ≤ c ∧ c < wg.heap.size := h; simp at h; omega, fun h => by have := HFX.out _ h; omega⟩ (fun b h h2 => by have h : w2.drew.heap.size ≤ b ∧ b < wg.heap.size := h; have := HFX.out _ h2; omega) G5.out).mono ?_
  rintro e wn ⟨V, rfl, bn, hR⟩
  go_wp2_with fail
  refine hR.mono ?_
  rintro e w6 ⟨⟨k6, rfl⟩, ⟨Fg6, Fx6, gm, xm, hgF, hxF, hgo, hxh⟩, kp6⟩
  have HGF := Lib.hid hgF
  have HXF := Lib.hid hxF
  have BB6 := Lib.hid (((B03.out.trans (KW.out.below (B := w.heap.size) B03.out.size (fun i hi h => by omega))).trans (B5.out.mono (by have := B03.out.size; omega))).trans (kp6.below (B := w.heap.size) (by have := B03.out.size; omega) (fun i hi h => by
   have hz := B2.out.size
   rcases h with h | h | h | h
   ·omega
   ·omega
   ·have h : w2.drew.heap.size ≤ i ∧ i < wg.heap.size := h
    simp at h
    omega
   ·have := HFX.out _ h
    omega)))
  clear hgF hxF kp6
  obtain ⟨a1, a2, a3, aO, aR, aov, a4, a5⟩ := HGF.out
  obtain ⟨e1, e2, e3, e4, eL, eF, env, eov, e5⟩ := HXF.out
  have GI := Lib.hid a5
  have RI := Lib.hid e5
  have HGO := Lib.hid hgo
  clear a1 a2 a3 a4 a5 e1 e2 e3 e4 e5 hgo
  go_wp2_with fail
  refine (gMessages_at w6 GI.out (by rw [HGO.out]; decide) (by rw [HGO.out]; intro x hx; simp at hx; subst hx; decide)).mono ?_
  rintro e w7 ⟨mv, rfl, hms, b7⟩
  rw [HGO.out] at hms
  have B7 := Lib.hid (BB6.out.trans (b7.mono BB6.out.size))
  have RI7 := Lib.hid (RI.out.below b7)
  have z7 := b7.size
  obtain ⟨ma, mc, rfl⟩ := hms.sl
  have HMS := Lib.hid hms
  clear hms b7
  go_wp2_with fail
  refine (relHeard_at w7 RI7.out).mono ?_
  rintro e w8 ⟨hv, rfl, hhs, b8⟩
  have B8 := Lib.hid (B7.out.trans (b8.mono B7.out.size))
  obtain ⟨y, hy⟩ : ∃ a, xm.2.heard = [(a, (2, [116, 119, 111]))] := by
   cases hq : xm.2.heard with
   | nil => rw [hq] at hxh; cases hxh
   | cons z r =>
    rw [hq] at hxh
    obtain ⟨a, t⟩ := z
    cases r with
    | nil => simp at hxh; exact ⟨a, by rw [hxh]⟩
    | cons _ _ => simp at hxh
  rw [hy] at hhs
  have HM8 := HMS.out.keep (M := fun _ => False) (Below.keeps b8) (fun _ _ => id) (fun _ _ => id)
  obtain ⟨ga, ca, s0, sl, sc, em, q1, q2, r1⟩ := HM8.ms_cell2 (k := 0) (t := 1) (d := [111, 110, 101]) rfl
  obtain ⟨gb, cb, s1, sl1, sc1, eh, q3, q4, q5, r2⟩ := hhs.cell3 (k := 0) (a := y) (t := 2) (d := [116, 119, 111]) rfl
  subst eh
  cases em
  simp only [Nat.zero_mul, Nat.zero_add] at q1 q2 q3 q4 q5
  have cv := conv_rd 32 9 Tryz.underlying32 Tryz.underlying9 r1
  have cv2 := conv_rd 32 9 Tryz.underlying32 Tryz.underlying9 r2
  rw [strOne] at cv
  rw [strTwo] at cv2
  have l1 := World.block_lt_of_cell? _ _ q2
  have l2 := World.block_lt_of_cell? _ _ q5
  clear HM8 hhs r1 r2 b8 hy hxh
  go_wp2
  go_ret
  exact ⟨rfl, B8.out⟩
end Go.Proofs.YtggjhleomocojaaGreat
