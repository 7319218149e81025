/- Contract of sched.World.step. Conditions: as each says. -/
import Derived.Test.YtggjhleomocojaaGreatPq
import Derived.Deep.RegionHeld3
import Derived.Deep.CutRange
namespace Go.Proofs.YtggjhleomocojaaGreat
set_option maxRecDepth 100000
open Go.RowKit
set_option linter.unusedVariables false
set_option linter.unusedSimpArgs false
def evC (pk pa pn : Int) (c : AA) (s : Value) (x : AN) (t : Value) : List Value :=
 [.int .i64 pk, .int .i64 pa, .int .i64 pn, .int .i64 c.k, .int .i64 c.a, .int .i64 c.n, .int .u64 c.v, .int .u64 c.x, s, .int .u64 x.v, .bool x.d, t]
def nilSl : Value := .slice none 0 0
set_option maxHeartbeats 2000000 in
theorem wStep_end (C : Fam) (F : Nat → Prop) (W ab xb : Nat) (a : Ac C.M.σ) (w : World) (h : AcIn C w F ab a) (hl : C.M.lives a = false) :
  Calls Tryz.prog 89 #[.pointer (some ⟨W, 0, none⟩), .pointer (some ⟨ab, 0, none⟩), .pointer (some ⟨xb, 0, none⟩)] w fun e w' => e = .returned (.int .i64 0) ∧ Below w.heap.size w w' := by
 obtain ⟨mv, hb, hm⟩ := h
 have key : Calls Tryz.prog 39 #[.pointer (some ⟨ab, 0, none⟩)] w fun e w' => ∃ c s0 sl sc, e = .returned (.tuple #[AA.V c (.slice s0 sl sc), .bool false]) ∧ Below w.heap.size w w' := by
  cases hm' : a.m with
  | none =>
   rw [hm'] at hm
   obtain rfl : mv = .nilIface := hm
   refine (aNext_nil ab _ w hb).mono ?_
   rintro e w' ⟨rfl, hb⟩
   exact ⟨aaZ, _, _, _, rfl, hb⟩
  | some s =>
   rw [hm'] at hm
   obtain ⟨q, rfl, hi⟩ := hm
   have hls : C.M.live s = false := by simpa [Mac.lives, hm'] using hl
   refine (aNext_some C F ab q _ s w hb hi).mono ?_
   rintro e w' ⟨s0, sl, sc, rfl, hr, hb⟩
   rw [hls]
   exact ⟨_, _, _, _, rfl, hb⟩
 have KEY := Lib.hid key
 have hlt := hb.lt
 clear key hb hm hl
 go_enter Tryz.func89, Tryz.ntmps89
 go_wp2_with fail
 refine KEY.out.mono ?_
 rintro e w1 ⟨c, s0, sl, sc, rfl, b1⟩
 unfold AA.V
 dsimp only
 go_wp2
 go_ret
 exact ⟨rfl, b1.alloc b1.size _⟩
variable {w : World}
theorem OwB.alloc {B : Nat} {v : Value} {l : List Int} (h : OwB 5 B w v l) (o : Obj) : OwB 5 B (w.alloc o) v l := OwB.below h ((Below.refl _ _).alloc (Nat.le_refl _) o)
theorem Buf.noByteRd {p c : Nat} {cnt : Int} {bs : List Int} (h : Buf w p c cnt bs) {v : Value} {l : List Int} (hr : RdB w v l) (hl : l.length ≠ 0) (i : Nat) (hi : v.ownBlock = some i) : ¬ (i = p ∨ i = c) := by
 rcases hr with ⟨_, rfl⟩ | ⟨_, _, _, rfl, _⟩ | ⟨g, off, cap, e1, e2, e3, e4⟩
 ·exact absurd rfl hl
 ·exact absurd rfl hl
 ·rw [e1] at hi
  obtain rfl : g = i := by simpa [Value.ownBlock] using hi
  exact h.noByte (e4 0 (by omega))
theorem doR_len (bs : List Int) (k : Int) (a n : Nat) : (doR bs k a n).length ≤ n := by
 unfold doR
 split
 ·simp
  omega
 ·simp
theorem Blk.c6 {b : Nat} {x0 x1 x2 x3 x4 x5 : Value} (h : Blk w b [x0, x1, x2, x3, x4, x5]) : w.cell? ⟨b, 0, none⟩ = some x0 ∧ w.cell? ⟨b, 1, none⟩ = some x1 ∧ w.cell? ⟨b, 2, none⟩ = some x2 ∧ w.cell? ⟨b, 3, none⟩ = some x3 ∧ w.cell? ⟨b, 4, none⟩ = some x4 ∧ w.cell? ⟨b, 5, none⟩ = some x5 :=
 ⟨h.cell 0, h.cell 1, h.cell 2, h.cell 3, h.cell 4, h.cell 5⟩
theorem Blk.c3 {b : Nat} {x0 x1 x2 : Value} (h : Blk w b [x0, x1, x2]) : w.cell? ⟨b, 0, none⟩ = some x0 ∧ w.cell? ⟨b, 1, none⟩ = some x1 ∧ w.cell? ⟨b, 2, none⟩ = some x2 := ⟨h.cell 0, h.cell 1, h.cell 2⟩
set_option maxHeartbeats 400000 in
theorem wStep_ok (C : Fam) (F : Nat → Prop) (W ab xb p c q : Nat) (d : Bool) (s : C.M.σ) (cnt : Int) (bs : List Int) (rw : List Value) (pk pa pn : Int) (w : World)
  (hW : Blk w W (.pointer (some ⟨p, 0, none⟩) :: rw)) (hb : Blk w ab [.iface (C.ty s) (.pointer (some ⟨q, 0, none⟩)), .bool d]) (hi : C.inv w F q s) (hx : Blk w xb (evC pk pa pn aaZ nilSl anZ nilSl)) (hB : Buf w p c cnt bs)
  (hc0 : 0 ≤ cnt) (hc1 : cnt ≤ 4611686018427387904) (hl : C.M.live s = true) (he : (C.M.want s).err bs.length = 0)
  (hd1 : xb ≠ p ∧ xb ≠ c ∧ xb ≠ ab ∧ xb ≠ W ∧ ab ≠ p ∧ ab ≠ c ∧ W ≠ p ∧ W ≠ c) (hF : ∀ i, F i → i ≠ p ∧ i ≠ c ∧ i ≠ ab ∧ i ≠ xb ∧ i ≠ W) :
  Calls Tryz.prog 89 #[.pointer (some ⟨W, 0, none⟩), .pointer (some ⟨ab, 0, none⟩), .pointer (some ⟨xb, 0, none⟩)] w fun e w' => e = .returned (.int .i64 0) ∧
   ∃ F' B sv tv, Blk w' xb (evC pk pa pn (C.M.want s) sv ((C.M.want s).ans bs) tv) ∧ RdB w' sv (C.M.want s).b ∧ RdB w' tv ((C.M.want s).ans bs).b ∧ (∀ i, sv.ownBlock = some i ∨ tv.ownBlock = some i → w.heap.size ≤ i ∧ i < B) ∧
    Buf w' p c (cnt + 1) ((C.M.want s).out bs) ∧ C.inv w' F' q (C.M.step s ((C.M.want s).ans bs)) ∧ (∀ i, F' i → F i ∨ B ≤ i) ∧ (w.heap.size ≤ B ∧ B ≤ w'.heap.size) ∧ Keep (fun i => F i ∨ i = xb ∨ i = p ∨ i = c) w w' := by
 have hwf := C.wf hi
 obtain ⟨hz, h0, h1, h2, h3, h4, h5⟩ := acE_ok he (by omega)
 have wl := hW.lt
 have al := hb.lt
 have xl := hx.lt
 have pl := hB.hd.lt
 have cl := hB.wd.lt
 have HI := Lib.hid hi
 have HW := Lib.hid hW
 have HA := Lib.hid hb
 have HX := Lib.hid hx
 have HB := Lib.hid hB
 have HF := Lib.hid hF
 have HE := Lib.hid he
 have HWF := Lib.hid hwf
 have hL := hl
 clear hi hW hb hx hB hF he hwf h5 hz hl
 generalize hC : C.M.want s = A at *
 obtain ⟨k, a, n, v, x, b⟩ := A
 dsimp only at h0 h1 h2 h3 h4
 obtain ⟨a, rfl⟩ := Int.eq_ofNat_of_zero_le h0
 obtain ⟨n, rfl⟩ := Int.eq_ofNat_of_zero_le h3
 go_enter Tryz.func89, Tryz.ntmps89
 go_wp2_with fail
 refine (aNext_some C F ab q d s _ HA.out HI.out).mono ?_
 rintro e w1 ⟨s0, sl, sc, rfl, hr, b1⟩
 rw [hC, hL]
 unfold AA.V
 dsimp only
 rw [hC] at hr
 have HR1 := Lib.hid hr
 clear hr
 go_wp2_with fail
 refine (clone_any _ b _ (HR1.out.below ((Below.refl _ _).alloc (Nat.le_refl _) _)) (by have := HWF.out.bl; dsimp only at this; omega)).mono ?_
 rintro e w2 ⟨sv, rfl, o2, b2⟩
 obtain ⟨t0, tl, tc, rfl⟩ := o2.isSliceC
 have z1 := b1.size
 have z2 := b2.size
 simp at z2
 have L2 := Lib.hid (Blk.below (Blk.made w1 #[.int .i64 k, .int .i64 a, .int .i64 n, .int .u64 v, .int .u64 x, .slice s0 sl sc] 72) b2 (by simp))
 have B2 : Below w.heap.size w w2 := (b1.alloc (by omega) _).trans (b2.mono (by simp; omega))
 have O2 := Lib.hid o2
 clear b1 b2 o2
 have l5 := L2.out.cell 5
 have g5 := L2.out.frozen 5
 simp only [List.getElem?_toArray, List.getElem?_cons_zero, List.getElem?_cons_succ] at l5
 have hlt2 : w1.heap.size < w2.heap.size := by omega
 go_wp2_with fail
 obtain ⟨w3, h3⟩ : ∃ w3, w3 = w2.setCell ⟨w1.heap.size, 5, none⟩ (.slice t0 tl tc) := ⟨_, rfl⟩
 rw [← h3]
 have L3 : Blk w3 w1.heap.size [.int .i64 k, .int .i64 a, .int .i64 n, .int .u64 v, .int .u64 x, .slice t0 tl tc] := by
  rw [h3]
  exact L2.out.set 5 _
 have Z3 := Lib.hid (show w3.heap.size = w2.heap.size by rw [h3]; simp [World.setCell])
 have z31 : w1.heap.size < w3.heap.size := by rw [Z3.out]; omega
 have B3 : Below w.heap.size w w3 := by rw [h3]; exact B2.setCell (by show w.heap.size ≤ w1.heap.size; omega) _
 have O3 : OwB 5 (w1.heap.size + 1) w3 (.slice t0 tl tc) b := by
  rw [h3]
  exact OwB.farC (O2.out.mono (by simp)) (by show w1.heap.size < w1.heap.size + 1; omega) _
 clear h3 L2 O2 l5 g5
 have W3 : w3.cell? ⟨W, 0, none⟩ = some (.pointer (some ⟨p, 0, none⟩)) := (B3.cell (p := ⟨W, 0, none⟩) wl).trans (HW.out.cell 0)
 have l0 := L3.cell 0
 have l1 := L3.cell 1
 have l2 := L3.cell 2
 have l3 := L3.cell 3
 have l4 := L3.cell 4
 have l5 := L3.cell 5
 simp only [List.getElem?_cons_zero, List.getElem?_cons_succ] at l0 l1 l2 l3 l4 l5
 have LL := Lib.hid L3
 have OO := Lib.hid O3
 clear L3 O3
 have HB3 := Lib.hid (HB.out.below B3 pl cl)
 have HTL := Lib.hid (show tl = b.length from rd_len OO.out.rd)
 have HNL := Lib.hid (show ¬ (w1.heap.size = p ∨ w1.heap.size = c) by omega)
 have HSZ := Lib.hid (show w1.heap.size < w3.drew.heap.size by rw [World.size_drew]; omega)
 have HSW := Lib.hid (show W < w3.drew.heap.size by rw [World.size_drew]; omega)
 have HSZa := Lib.hid (show w1.heap.size < (w3.alloc (Obj.cells #[Value.int IntKind.u64 0, Value.bool false, Value.slice none 0 0] 74)).drew.heap.size by rw [World.size_drew, World.size_alloc]; omega)
 have HSWa := Lib.hid (show W < (w3.alloc (Obj.cells #[Value.int IntKind.u64 0, Value.bool false, Value.slice none 0 0] 74)).drew.heap.size by rw [World.size_drew, World.size_alloc]; omega)
 have HNT := Lib.hid (show ¬ (w3.heap.size = p ∨ w3.heap.size = c) by rw [Z3.out]; omega)
 have HT0 : Hid (Blk (w3.alloc (Obj.cells #[Value.int IntKind.u64 0, Value.bool false, Value.slice none 0 0] 74)).drew w3.heap.size [.int .u64 0, .bool false, .slice none 0 0]) := Lib.hid (Blk.drew (Blk.made w3 #[.int .u64 0, .bool false, .slice none 0 0] 74))
 have HNW := Lib.hid (show ¬ (W = p ∨ W = c) by omega)
 go_upto_region 5 with fail
 go_cut [9, 10] from 22 to 30 (fun t e wx => ∃ (T : Nat) (r0 : Option Addr) (rl rc : Nat), t = .pointer (some ⟨T, 0, none⟩) ∧ e = .int .i64 0 ∧ w3.heap.size ≤ T ∧ Blk wx T [.int .u64 (doV bs k a n), .bool (doD bs k a n v), .slice r0 rl rc] ∧ OwB 5 w3.heap.size wx (.slice r0 rl rc) (doR bs k a n) ∧ Buf wx p c (cnt + 1) (doB bs k a n v x b) ∧ Keep (fun k => k = p ∨ k = c) w3 wx)
 case first =>
  refine wp_region_held_drew (S := fun w' => w'.cell? ⟨W, 0, none⟩ = some (.pointer (some ⟨p, 0, none⟩)) ∧ w'.cell? ⟨w1.heap.size, 0, none⟩ = some (.int .i64 k) ∧ w'.cell? ⟨w1.heap.size, 1, none⟩ = some (.int .i64 a) ∧ w'.cell? ⟨w1.heap.size, 2, none⟩ = some (.int .i64 n) ∧ w'.cell? ⟨w1.heap.size, 3, none⟩ = some (.int .u64 v) ∧ w'.cell? ⟨w1.heap.size, 4, none⟩ = some (.int .u64 x) ∧ w'.cell? ⟨w1.heap.size, 5, none⟩ = some (.slice t0 tl tc)) (by kernel_rfl) ?_ (fun hHeld => ?_)
  ·try dsimp only
   exact ⟨W3, l0, l1, l2, l3, l4, l5⟩
  refine wpT 0 rfl ?_
  try simp only [Act.put, tS]
  refine wpT 1 rfl ?_
  try simp only [Act.put, tS]
  refine wpT 2 rfl ?_
  try simp only [Act.put, tS]
  refine wpT 3 rfl ?_
  try simp only [Act.put, tS]
  refine wpT 4 rfl ?_
  try simp only [Act.put, tS]
  refine wpAnyH_ready (rs := [5, 9]) (by kernel_rfl) (by simp) ?_
  refine AllReadyH.cons rfl (fun K hK => ?_) (AllReadyH.cons rfl (fun K hK => ?_) AllReadyH.nil)
  ·go_simp
   go_at_call 122
   refine (mDo_ok p c cnt bs k a n v x t0 tl tc b _ (Buf.drew HB3.out) hc0 hc1 HWF.out.v0 HWF.out.v1 HWF.out.x0 HWF.out.x1 (OwB.rd OO.out) HWF.out.b (HTL.out ▸ HE.out)).mono ?_
   rintro e w4 ⟨tv, rfl, o4, hb4, k4⟩
   obtain ⟨r0, rl, rc, rfl⟩ := o4.isSliceC
   unfold anV
   have hc := fun o => k4.cell (b := w1.heap.size) o HSZ.out HNL.out
   have hcW := fun o => k4.cell (b := W) o HSW.out HNW.out
   go_wp2_with fail
   refine hK.out _ _ ?_ (fun hHeld => ?_)
   ·try dsimp only
    exact ⟨(hcW 0).trans W3, (hc 0).trans l0, (hc 1).trans l1, (hc 2).trans l2, (hc 3).trans l3, (hc 4).trans l4, (hc 5).trans l5⟩
   clear hK K
   try simp only [Act.put, tS]
   refine wpT 6 rfl ?_
   try simp only [Act.put, tS]
   refine wpT 7 rfl ?_
   try simp only [Act.put, tS]
   refine wpT 8 rfl ?_
   try simp only [Act.put, tS]
   refine wpR 9 rfl fun K hK => ?_
   go_simp
   refine hK.out _ _ ?_ (fun hHeld => ?_)
   ·try dsimp only
    go_keep
   clear hK K
   try simp only [Act.put, tS]
   refine wpR 10 rfl fun K hK => ?_
   go_simp
   refine hK.out _ _ ?_ (fun hHeld => ?_)
   ·try dsimp only
    go_keep
   clear hK K
   try simp only [Act.put, tS]
   refine wpT 11 rfl ?_
   try simp only [Act.put, tS]
   refine wpAnyH_done (by kernel_rfl) ?_ _
   go_wp2_with fail
   go_meet
   exact ⟨w4.heap.size, r0, rl, rc, rfl, rfl, k4.size, Blk.made w4 _ _, OwB.alloc (OwB.mono o4 (by rw [World.size_drew]; exact Nat.le_refl _)) _, Buf.alloc hb4 _, Keep.alloc (Keep.trans (Keep.drew (Keep.refl _ _)) k4) _⟩
  ·go_simp
   go_wp2_with fail
   refine hK.out _ _ ?_ (fun hHeld => ?_)
   ·try dsimp only
    go_keep
   clear hK K
   try simp only [Act.put, tS]
   refine wpR 5 rfl fun K hK => ?_
   go_simp
   go_at_call 122
   refine (mDo_ok p c cnt bs k a n v x t0 tl tc b _ (Buf.drew (Buf.alloc HB3.out _)) hc0 hc1 HWF.out.v0 HWF.out.v1 HWF.out.x0 HWF.out.x1 (OwB.rd (OwB.alloc OO.out _)) HWF.out.b (HTL.out ▸ HE.out)).mono ?_
   rintro e w4 ⟨tv, rfl, o4, hb4, k4⟩
   obtain ⟨r0, rl, rc, rfl⟩ := o4.isSliceC
   unfold anV
   have hc := fun o => k4.cell (b := w1.heap.size) o HSZa.out HNL.out
   have hcW := fun o => k4.cell (b := W) o HSWa.out HNW.out
   have E4 := Lib.hid (HT0.out.keep k4 HNT.out)
   obtain ⟨e40, e41, e42⟩ := Blk.c3 E4.out
   have e50 := E4.out.frozen 0
   have e51 := E4.out.frozen 1
   have e52 := E4.out.frozen 2
   have nW1 : w3.heap.size ≠ W := by omega
   have nL1 : w3.heap.size ≠ w1.heap.size := by omega
   go_wp2_with fail
   refine hK.out _ _ ?_ (fun hHeld => ?_)
   ·try dsimp only
    go_keep
   clear hK K
   try simp only [Act.put, tS]
   refine wpT 6 rfl ?_
   try simp only [Act.put, tS]
   refine wpT 7 rfl ?_
   try simp only [Act.put, tS]
   refine wpT 8 rfl ?_
   try simp only [Act.put, tS]
   refine wpR 10 rfl fun K hK => ?_
   go_simp
   refine hK.out _ _ ?_ (fun hHeld => ?_)
   ·try dsimp only
    go_keep
   clear hK K
   try simp only [Act.put, tS]
   refine wpT 11 rfl ?_
   try simp only [Act.put, tS]
   refine wpAnyH_done (by kernel_rfl) ?_ _
   go_wp2_with fail
   go_meet
   have OB := OwB.farC (OwB.farC (OwB.farC (OwB.mono o4 (show w3.heap.size + 1 ≤ _ by rw [World.size_drew, World.size_alloc]; exact Nat.le_refl _)) (a := ⟨w3.heap.size, 0, none⟩) (Nat.lt_succ_self _) (.int .u64 (doV bs k a n))) (a := ⟨w3.heap.size, 1, none⟩) (Nat.lt_succ_self _) (.bool (doD bs k a n v))) (a := ⟨w3.heap.size, 2, none⟩) (Nat.lt_succ_self _) (.slice r0 rl rc)
   have np : p ≠ w3.heap.size := by have := HNT.out; omega
   have nc : c ≠ w3.heap.size := by have := HNT.out; omega
   have KB : Keep (fun k => k = p ∨ k = c) w3 w4 := Keep.trans (Keep.drew (Keep.alloc (Keep.refl _ _) _)) k4
   exact ⟨w3.heap.size, r0, rl, rc, rfl, rfl, Nat.le_refl _, ((E4.out.set 0 _).set 1 _).set 2 _, OwB.mono OB (Nat.le_succ _), ((Buf.far (a := ⟨w3.heap.size, 0, none⟩) hb4 np nc _).far (a := ⟨w3.heap.size, 1, none⟩) np nc _).far (a := ⟨w3.heap.size, 2, none⟩) np nc _, ((KB.setCell (p := ⟨w3.heap.size, 0, none⟩) (.inr (Nat.le_refl _)) _).setCell (p := ⟨w3.heap.size, 1, none⟩) (.inr (Nat.le_refl _)) _).setCell (p := ⟨w3.heap.size, 2, none⟩) (.inr (Nat.le_refl _)) _⟩
 case rest =>
  obtain ⟨T, r0, rl, rc, rfl, rfl, hT, tb, ob, hb, kb⟩ := hcut
  obtain ⟨wo, rfl⟩ : ∃ wo : World, wo = wc := ⟨_, rfl⟩
  clear W3 l0 l1 l2 l3 l4 l5
  have X5 := Lib.hid ((HX.out.below B3 xl).keep kb (by omega))
  have A5 := Lib.hid ((HA.out.below B3 al).keep kb (by omega))
  have LL5 := Lib.hid (LL.out.keep kb HNL.out)
  have TB := Lib.hid tb
  have OB := Lib.hid ob
  have HB5 := Lib.hid hb
  have KB := Lib.hid kb
  clear tb ob hb kb
  go_upto_region 9 with fail
  go_cut [] from 37 to 44 (fun wx => Blk wx xb [.int .i64 pk, .int .i64 pa, .int .i64 pn, .int .i64 k, .int .i64 a, .int .i64 n, .int .u64 v, .int .u64 x, .slice t0 tl tc, .int .u64 (doV bs k a n), .bool (doD bs k a n v), .slice r0 rl rc] ∧ Keep (· = xb) wo wx)
  case first =>
   obtain ⟨l0, l1, l2, l3, l4, l5⟩ := LL5.out.c6
   obtain ⟨u0, u1, u2⟩ := TB.out.c3
   have xx := fun i => X5.out.frozen i
   have x3 := xx 3
   have x4 := xx 4
   have x5 := xx 5
   have x6 := xx 6
   have x7 := xx 7
   have x8 := xx 8
   have x9 := xx 9
   have x10 := xx 10
   have x11 := xx 11
   clear xx
   have y3 := X5.out.cell 3
   have y4 := X5.out.cell 4
   have y5 := X5.out.cell 5
   have y6 := X5.out.cell 6
   have y7 := X5.out.cell 7
   have y8 := X5.out.cell 8
   have y9 := X5.out.cell 9
   have y10 := X5.out.cell 10
   have y11 := X5.out.cell 11
   simp only [evC, List.getElem?_cons_zero, List.getElem?_cons_succ] at y3 y4 y5 y6 y7 y8 y9 y10 y11
   have nxL : xb ≠ w1.heap.size := by omega
   have nxT : xb ≠ T := by omega
   refine wp_region_held_drew (S := fun w' => w'.cell? ⟨w1.heap.size, 0, none⟩ = some (.int .i64 k) ∧ w'.cell? ⟨w1.heap.size, 1, none⟩ = some (.int .i64 a) ∧ w'.cell? ⟨w1.heap.size, 2, none⟩ = some (.int .i64 n) ∧ w'.cell? ⟨w1.heap.size, 3, none⟩ = some (.int .u64 v) ∧ w'.cell? ⟨w1.heap.size, 4, none⟩ = some (.int .u64 x) ∧ w'.cell? ⟨w1.heap.size, 5, none⟩ = some (.slice t0 tl tc) ∧ w'.cell? ⟨T, 0, none⟩ = some (.int .u64 (doV bs k a n)) ∧ w'.cell? ⟨T, 1, none⟩ = some (.bool (doD bs k a n v)) ∧ w'.cell? ⟨T, 2, none⟩ = some (.slice r0 rl rc)) (by kernel_rfl) ?_ (fun hHeld => ?_)
   ·try dsimp only
    exact ⟨l0, l1, l2, l3, l4, l5, u0, u1, u2⟩
   refine wpT 0 rfl ?_
   try simp only [Act.put, tS]
   refine wpT 1 rfl ?_
   try simp only [Act.put, tS]
   refine wpT 2 rfl ?_
   try simp only [Act.put, tS]
   refine wpT 3 rfl ?_
   try simp only [Act.put, tS]
   refine wpT 4 rfl ?_
   try simp only [Act.put, tS]
   refine wpT 5 rfl ?_
   try simp only [Act.put, tS]
   refine wpR 6 rfl fun K hK => ?_
   go_simp
   refine hK.out _ _ ?_ (fun hHeld => ?_)
   ·try dsimp only
    go_keep
   clear hK K
   try simp only [Act.put, tS]
   refine wpT 7 rfl ?_
   try simp only [Act.put, tS]
   refine wpT 8 rfl ?_
   try simp only [Act.put, tS]
   refine wpR 9 rfl fun K hK => ?_
   go_simp
   refine hK.out _ _ ?_ (fun hHeld => ?_)
   ·try dsimp only
    go_keep
   clear hK K
   try simp only [Act.put, tS]
   refine wpAnyH_done (by kernel_rfl) ?_ _
   go_wp2_with fail
   go_meet
   refine ⟨Blk.drew (((((((((X5.out.set 3 _).set 4 _).set 5 _).set 6 _).set 7 _).set 8 _).set 9 _).set 10 _).set 11 _), Keep.drew ?_⟩
   iterate 9 (refine Keep.setCell (M := (· = xb)) ?_ (Or.inl rfl) _)
   exact Keep.refl _ _
  case rest =>
   obtain ⟨x6, k6⟩ := hcut
   have T5 := TB.out.lt
   have X6 := Lib.hid x6
   have K6 := Lib.hid k6
   have A6 := Lib.hid (A5.out.keep k6 (by show ¬ ab = xb; omega))
   have TB6 := Lib.hid (TB.out.keep k6 (by show ¬ T = xb; omega))
   have OB6 := Lib.hid (show RdB wc (.slice r0 rl rc) (doR bs k a n) from OB.out.rd.keep (K := (· = xb)) k6 (fun h i hi e => by have := (World.ownsRow.lt OB.out i hi).1; omega))
   have HB6 := Lib.hid (HB5.out.keep k6 (by show ¬ p = xb; omega) (by show ¬ c = xb; omega))
   have W6 := Lib.hid (((HW.out.below B3 wl).keep KB.out (by omega)).keep k6 (by show ¬ W = xb; omega))
   have SV6 := Lib.hid (show RdB wc (.slice t0 tl tc) b from (OO.out.rd.keep KB.out (fun h i hi e => Buf.noByteRd HB3.out OO.out.rd h i hi e)).keep k6 (fun h i hi e => by have := (World.ownsRow.lt OO.out i hi).1; have e : i = xb := e; omega))
   clear x6 k6
   obtain ⟨u0, u1, u2⟩ := TB6.out.c3
   have z6 := KB.out.size
   have z7 := K6.out.size
   go_wp2_with fail
   refine (clone_any _ (doR bs k a n) _ OB6.out (by have := doR_len bs k a n; omega)).mono ?_
   rintro e w7 ⟨sv, rfl, o7, b7⟩
   obtain ⟨m0, ml, mc, rfl⟩ := o7.isSliceC
   have TB7 := Lib.hid (TB6.out.below b7 (by omega))
   have O7 := Lib.hid o7
   have B7 := Lib.hid b7
   have A7 := Lib.hid (A6.out.below b7 (by omega))
   have g2 := TB7.out.frozen 2
   have y2 := TB7.out.cell 2
   simp only [List.getElem?_cons_zero, List.getElem?_cons_succ] at y2
   have z7 := b7.size
   clear o7 b7 u0 u1 u2
   go_wp2_with fail
   obtain ⟨w8, h8⟩ : ∃ w8, w8 = w7.setCell ⟨T, 2, none⟩ (.slice m0 ml mc) := ⟨_, rfl⟩
   rw [← h8]
   have TB8 : Blk w8 T [.int .u64 (doV bs k a n), .bool (doD bs k a n v), .slice m0 ml mc] := by
    rw [h8]
    exact TB7.out.set 2 _
   have K8 : Keep (· = T) w7 w8 := by
    rw [h8]
    exact Keep.setCell (M := (· = T)) (Keep.refl _ _) (p := ⟨T, 2, none⟩) (.inl rfl) _
   clear h8 y2 g2
   have O8 := Lib.hid (show RdB w8 (.slice m0 ml mc) (doR bs k a n) from O7.out.rd.keep (K := (· = T)) K8 (fun h i hi e => by have := (World.ownsRow.lt O7.out i hi).1; have e : i = T := e; omega))
   have A8 := Lib.hid (A7.out.keep K8 (by show ¬ ab = T; omega))
   have K18 : Keep (fun i => i = xb ∨ i = p ∨ i = c) w w8 := (((Keep.then (M := fun i => i = xb ∨ i = p ∨ i = c) (Below.keeps B3) KB.out (fun i _ h => .inr h)).then K6.out (fun i _ h => .inl h)).then (Below.keeps (M := fun _ => False) B7.out) (fun _ _ h => h.elim)).then K8 (fun i hi h => by omega)
   have I8 := Lib.hid (C.keep HI.out K18 (fun i hi h => by have := HF.out i hi; omega))
   have X8 := Lib.hid ((X6.out.below B7.out X6.out.lt).keep K8 (by show ¬ xb = T; omega))
   have HB8 := Lib.hid ((HB6.out.belows B7.out).keep K8 (by show ¬ p = T; omega) (by show ¬ c = T; omega))
   have SV8 := Lib.hid (show RdB w8 (.slice t0 tl tc) b from (SV6.out.below B7.out).keep (K := (· = T)) K8 (fun h i hi e => by have e : i = T := e; have h1 := (World.ownsRow.lt OO.out i hi).2; omega))
   have OB8 := Lib.hid (show RdB w8 (.slice r0 rl rc) (doR bs k a n) from (OB6.out.below B7.out).keep (K := (· = T)) K8 (fun h => OB.out.rd.apart h TB.out rfl))
   have SVo := Lib.hid (show ∀ i, (Value.slice t0 tl tc).ownBlock = some i → w.heap.size ≤ i ∧ i < w8.heap.size from fun i hi => by have h1 := World.ownsRow.lt OO.out i hi; have := K8.size; omega)
   have OBo := Lib.hid (show ∀ i, (Value.slice r0 rl rc).ownBlock = some i → w.heap.size ≤ i ∧ i < w8.heap.size from fun i hi => by have h1 := World.ownsRow.lt OB.out i hi; have := K8.size; omega)
   have K18 := Lib.hid K18
   obtain ⟨u0, u1, u2⟩ := TB8.c3
   have v0 := A8.out.cell 0
   simp only [List.getElem?_cons_zero] at v0
   have AOK : Hid (AN.ok (C.M.want s) ⟨doV bs k a n, doD bs k a n v, doR bs k a n⟩) := Lib.hid (by have := AA.ans_ok (c := C.M.want s) HB.out.is (by rw [hC]; exact HE.out); rw [hC] at this ⊢; exact this)
   have EA : Hid ((AA.ans ⟨k, a, n, v, x, b⟩ bs) = ⟨doV bs k a n, doD bs k a n v, doR bs k a n⟩) := Lib.hid rfl
   have L8 := Lib.hid TB8.lt
   clear TB8 K8 TB7 A7 B7 O7 SV6 W6 HB6 OB6 TB6 A6 K6 X6 KB HB5 OB TB LL5 A5 X5 HNW HT0 HNT HSWa HSZa HSW HSZ HNL HTL
   have mt := C.mt s q
   simp only [Tryz.types_size, Made.depth, Nat.reduceAdd] at mt
   have et := C.et s
   refine wp_region_held_drew (S := fun w' => w'.cell? ⟨ab, 0, none⟩ = some (.iface (C.ty s) (.pointer (some ⟨q, 0, none⟩))) ∧ w'.cell? ⟨T, 0, none⟩ = some (.int .u64 (doV bs k a n)) ∧ w'.cell? ⟨T, 1, none⟩ = some (.bool (doD bs k a n v)) ∧ w'.cell? ⟨T, 2, none⟩ = some (.slice m0 ml mc)) (by kernel_rfl) ?_ (fun hHeld => ?_)
   ·try dsimp only
    exact ⟨v0, u0, u1, u2⟩
   refine wpT 0 rfl ?_
   try simp only [Act.put, tS]
   refine wpT 1 rfl ?_
   try simp only [Act.put, tS]
   refine wpT 2 rfl ?_
   try simp only [Act.put, tS]
   refine wpT 3 rfl ?_
   try simp only [Act.put, tS]
   refine wpT 4 rfl ?_
   try simp only [Act.put, tS]
   refine wpR 5 rfl fun K hK => ?_
   go_simp
   refine (C.take (x := ⟨doV bs k a n, doD bs k a n v, doR bs k a n⟩) (C.keep I8.out (Keep.drew (Keep.refl (fun _ => False) _)) (fun _ _ => id)) hL AOK.out (O8.out.keep (Keep.drew (Keep.refl (fun _ => False) _)) (fun _ _ _ => id))).mono ?_
   rintro e w9 ⟨rfl, F', hi9, hF9, k9⟩
   have dom := C.dom HI.out
   have nF : ∀ i, F i → i < w.heap.size := dom.2
   go_wp2_with fail
   refine hK.out _ _ ?_ (fun hHeld => ?_)
   ·try dsimp only
    exact ⟨(k9.cell 0 (by rw [World.size_drew]; exact A8.out.lt) (fun h => by have := HF.out ab h; omega)).trans v0, (k9.cell 0 (by rw [World.size_drew]; exact L8.out) (fun h => by have := nF T h; omega)).trans u0, (k9.cell 1 (by rw [World.size_drew]; exact L8.out) (fun h => by have := nF T h; omega)).trans u1, (k9.cell 2 (by rw [World.size_drew]; exact L8.out) (fun h => by have := nF T h; omega)).trans u2⟩
   clear hK K
   try simp only [Act.put, tS]
   refine wpAnyH_done (by kernel_rfl) ?_ _
   go_wp2_with fail
   go_ret
   have K9 : Keep F w8 w9 := (Keep.drew (Keep.refl F w8)).trans k9
   have hA : C.M.want s = ⟨k, a, n, v, x, b⟩ := hC
   have hz8 := K18.out.size
   refine ⟨rfl, F', w8.heap.size, .slice t0 tl tc, .slice r0 rl rc, ?_, ?_, ?_, ?_, ?_, ?_, ?_, ?_, ?_⟩
   ·rw [EA.out]
    exact X8.out.keep K9 (fun h => by have := HF.out xb h; omega)
   ·exact SV8.out.keep K9 (fun _ i hi h => by have h1 := SVo.out i hi; have := nF i h; omega)
   ·rw [EA.out]
    exact OB8.out.keep K9 (fun _ i hi h => by have h1 := OBo.out i hi; have := nF i h; omega)
   ·rintro i (hi | hi)
    ·exact SVo.out i hi
    ·exact OBo.out i hi
   ·exact HB8.out.keep K9 (fun h => by have := HF.out p h; omega) (fun h => by have := HF.out c h; omega)
   ·rw [EA.out]
    exact hi9
   ·intro i hi
    rcases hF9 i hi with h | h
    ·exact .inl h
    ·exact .inr (by rw [World.size_drew] at h; exact h)
   ·exact ⟨hz8, K9.size⟩
   ·exact (K18.out.mono (fun i _ h => .inr h)).then K9 (fun i _ h => .inl h)
end Go.Proofs.YtggjhleomocojaaGreat
namespace Go.Proofs.YtggjhleomocojaaGreat
set_option maxRecDepth 100000
open Go.RowKit
set_option linter.unusedVariables false
set_option linter.unusedSimpArgs false
theorem bel_drew0 {B : Nat} {w w' : World} (h : Below B w.drew w') : Below B w w' := ⟨h.os, h.tape, h.output, h.size, h.block⟩
set_option maxHeartbeats 400000 in
theorem wStep_bad (C : Fam) (F : Nat → Prop) (W ab xb p c q : Nat) (d : Bool) (s : C.M.σ) (cnt : Int) (bs : List Int) (rw : List Value) (w : World)
  (hW : Blk w W (.pointer (some ⟨p, 0, none⟩) :: rw)) (hb : Blk w ab [.iface (C.ty s) (.pointer (some ⟨q, 0, none⟩)), .bool d]) (hi : C.inv w F q s) (hB : Buf w p c cnt bs)
  (hl : C.M.live s = true) (he : (C.M.want s).err bs.length ≠ 0) :
  Calls Tryz.prog 89 #[.pointer (some ⟨W, 0, none⟩), .pointer (some ⟨ab, 0, none⟩), .pointer (some ⟨xb, 0, none⟩)] w fun e w' => e = .returned (.int .i64 ((C.M.want s).err bs.length)) ∧
   Blk w' ab [.iface (C.ty s) (.pointer (some ⟨q, 0, none⟩)), .bool true] ∧ Keep (· = ab) w w' := by
 have hwf := C.wf hi
 have wl := hW.lt
 have al := hb.lt
 have pl := hB.hd.lt
 have cl := hB.wd.lt
 have HI := Lib.hid hi
 have HW := Lib.hid hW
 have HA := Lib.hid hb
 have HB := Lib.hid hB
 have HWF := Lib.hid hwf
 have hL := hl
 obtain ⟨E, hE⟩ : ∃ E, E = (C.M.want s).err bs.length := ⟨_, rfl⟩
 rw [← hE] at he ⊢
 have hEb : (E != 0) = true := by simpa using he
 clear hi hW hb hB he hwf hl
 generalize hC : C.M.want s = A at *
 obtain ⟨k, a, n, v, x, b⟩ := A
 have HE := Lib.hid (show E = acE bs.length k a n b.length from hE)
 clear hE
 go_enter Tryz.func89, Tryz.ntmps89
 go_wp2_with fail
 refine (aNext_some C F ab q d s _ HA.out HI.out).mono ?_
 rintro e w1 ⟨s0, sl, sc, rfl, hr, b1⟩
 rw [hC, hL]
 unfold AA.V
 dsimp only
 rw [hC] at hr
 have HR1 := Lib.hid hr
 clear hr
 go_wp2_with fail
 refine (clone_any _ b _ (HR1.out.below ((Below.refl _ _).alloc (Nat.le_refl _) _)) (by have := HWF.out.bl; dsimp only at this; omega)).mono ?_
 rintro e w2 ⟨sv, rfl, o2, b2⟩
 obtain ⟨t0, tl, tc, rfl⟩ := o2.isSliceC
 have z1 := b1.size
 have z2 := b2.size
 simp at z2
 have L2 := Lib.hid (Blk.below (Blk.made w1 #[.int .i64 k, .int .i64 a, .int .i64 n, .int .u64 v, .int .u64 x, .slice s0 sl sc] 72) b2 (by simp))
 have B2 : Below w.heap.size w w2 := (b1.alloc (by omega) _).trans (b2.mono (by simp; omega))
 have O2 := Lib.hid o2
 clear b1 b2 o2
 have l5 := L2.out.cell 5
 have g5 := L2.out.frozen 5
 simp only [List.getElem?_toArray, List.getElem?_cons_zero, List.getElem?_cons_succ] at l5
 have hlt2 : w1.heap.size < w2.heap.size := by omega
 go_wp2_with fail
 obtain ⟨w3, h3⟩ : ∃ w3, w3 = w2.setCell ⟨w1.heap.size, 5, none⟩ (.slice t0 tl tc) := ⟨_, rfl⟩
 rw [← h3]
 have L3 : Blk w3 w1.heap.size [.int .i64 k, .int .i64 a, .int .i64 n, .int .u64 v, .int .u64 x, .slice t0 tl tc] := by
  rw [h3]
  exact L2.out.set 5 _
 have Z3 := Lib.hid (show w3.heap.size = w2.heap.size by rw [h3]; simp [World.setCell])
 have z31 : w1.heap.size < w3.heap.size := by rw [Z3.out]; omega
 have B3 : Below w.heap.size w w3 := by rw [h3]; exact B2.setCell (by show w.heap.size ≤ w1.heap.size; omega) _
 have O3 : OwB 5 (w1.heap.size + 1) w3 (.slice t0 tl tc) b := by
  rw [h3]
  exact OwB.farC (O2.out.mono (by simp)) (by show w1.heap.size < w1.heap.size + 1; omega) _
 clear h3 L2 O2 l5 g5
 have W3 : w3.cell? ⟨W, 0, none⟩ = some (.pointer (some ⟨p, 0, none⟩)) := (B3.cell (p := ⟨W, 0, none⟩) wl).trans (HW.out.cell 0)
 have l0 := L3.cell 0
 have l1 := L3.cell 1
 have l2 := L3.cell 2
 have l3 := L3.cell 3
 have l4 := L3.cell 4
 have l5 := L3.cell 5
 simp only [List.getElem?_cons_zero, List.getElem?_cons_succ] at l0 l1 l2 l3 l4 l5
 have LL := Lib.hid L3
 have OO := Lib.hid O3
 clear L3 O3
 have HB3 := Lib.hid (HB.out.below B3 pl cl)
 have HTL := Lib.hid (show tl = b.length from rd_len OO.out.rd)
 have HNL := Lib.hid (show ¬ (w1.heap.size = p ∨ w1.heap.size = c) by omega)
 have HSZ := Lib.hid (show w1.heap.size < w3.drew.heap.size by rw [World.size_drew]; omega)
 have HSW := Lib.hid (show W < w3.drew.heap.size by rw [World.size_drew]; omega)
 have HSZa := Lib.hid (show w1.heap.size < (w3.alloc (Obj.cells #[Value.int IntKind.u64 0, Value.bool false, Value.slice none 0 0] 74)).drew.heap.size by rw [World.size_drew, World.size_alloc]; omega)
 have HSWa := Lib.hid (show W < (w3.alloc (Obj.cells #[Value.int IntKind.u64 0, Value.bool false, Value.slice none 0 0] 74)).drew.heap.size by rw [World.size_drew, World.size_alloc]; omega)
 have HT0 : Hid (Blk (w3.alloc (Obj.cells #[Value.int IntKind.u64 0, Value.bool false, Value.slice none 0 0] 74)).drew w3.heap.size [.int .u64 0, .bool false, .slice none 0 0]) := Lib.hid (Blk.drew (Blk.made w3 #[.int .u64 0, .bool false, .slice none 0 0] 74))
 obtain ⟨cE, hcE'⟩ : ∃ cE, cE = w3.heap.size := ⟨_, rfl⟩
 have hcE := Lib.hid hcE'
 have HEt := Lib.hid (show acE bs.length k a n tl = E by rw [HTL.out]; exact HE.out.symm)
 clear hcE'
 go_upto_region 5 with fail
 go_cut [9, 10] from 22 to 30 (fun t e wx => ∃ (T : Nat), t = .pointer (some ⟨T, 0, none⟩) ∧ e = .int .i64 E ∧ Below cE w3 wx)
 case first =>
  refine wp_region_held_drew (S := fun w' => w'.cell? ⟨W, 0, none⟩ = some (.pointer (some ⟨p, 0, none⟩)) ∧ w'.cell? ⟨w1.heap.size, 0, none⟩ = some (.int .i64 k) ∧ w'.cell? ⟨w1.heap.size, 1, none⟩ = some (.int .i64 a) ∧ w'.cell? ⟨w1.heap.size, 2, none⟩ = some (.int .i64 n) ∧ w'.cell? ⟨w1.heap.size, 3, none⟩ = some (.int .u64 v) ∧ w'.cell? ⟨w1.heap.size, 4, none⟩ = some (.int .u64 x) ∧ w'.cell? ⟨w1.heap.size, 5, none⟩ = some (.slice t0 tl tc)) (by kernel_rfl) ?_ (fun hHeld => ?_)
  ·try dsimp only
   exact ⟨W3, l0, l1, l2, l3, l4, l5⟩
  refine wpT 0 rfl ?_
  try simp only [Act.put, tS]
  refine wpT 1 rfl ?_
  try simp only [Act.put, tS]
  refine wpT 2 rfl ?_
  try simp only [Act.put, tS]
  refine wpT 3 rfl ?_
  try simp only [Act.put, tS]
  refine wpT 4 rfl ?_
  try simp only [Act.put, tS]
  refine wpAnyH_ready (rs := [5, 9]) (by kernel_rfl) (by simp) ?_
  refine AllReadyH.cons rfl (fun K hK => ?_) (AllReadyH.cons rfl (fun K hK => ?_) AllReadyH.nil)
  ·go_simp
   go_at_call 122
   refine (mDo_bad p c cnt bs k a n v x t0 tl tc _ (Buf.drew HB3.out) (by rw [HEt.out]; simpa using hEb)).mono ?_
   rintro e w4 ⟨rfl, b4⟩
   rw [HEt.out]
   unfold anV
   go_wp2_with fail
   refine hK.out _ _ ?_ (fun hHeld => ?_)
   ·try dsimp only
    exact ⟨(b4.cell (p := ⟨W, 0, none⟩) HSW.out).trans W3, (b4.cell (p := ⟨w1.heap.size, 0, none⟩) HSZ.out).trans l0, (b4.cell (p := ⟨w1.heap.size, 1, none⟩) HSZ.out).trans l1, (b4.cell (p := ⟨w1.heap.size, 2, none⟩) HSZ.out).trans l2, (b4.cell (p := ⟨w1.heap.size, 3, none⟩) HSZ.out).trans l3, (b4.cell (p := ⟨w1.heap.size, 4, none⟩) HSZ.out).trans l4, (b4.cell (p := ⟨w1.heap.size, 5, none⟩) HSZ.out).trans l5⟩
   clear hK K
   try simp only [Act.put, tS]
   refine wpT 6 rfl ?_
   try simp only [Act.put, tS]
   refine wpT 7 rfl ?_
   try simp only [Act.put, tS]
   refine wpT 8 rfl ?_
   try simp only [Act.put, tS]
   refine wpR 9 rfl fun K hK => ?_
   go_simp
   refine hK.out _ _ ?_ (fun hHeld => ?_)
   ·try dsimp only
    go_keep
   clear hK K
   try simp only [Act.put, tS]
   refine wpR 10 rfl fun K hK => ?_
   go_simp
   refine hK.out _ _ ?_ (fun hHeld => ?_)
   ·try dsimp only
    go_keep
   clear hK K
   try simp only [Act.put, tS]
   refine wpT 11 rfl ?_
   try simp only [Act.put, tS]
   refine wpAnyH_done (by kernel_rfl) ?_ _
   go_wp2_with fail
   go_meet
   rw [World.size_drew] at b4
   exact ⟨_, rfl, rfl, by rw [hcE.out]; exact Below.alloc (bel_drew0 b4) b4.size _⟩
  ·go_simp
   go_wp2_with fail
   refine hK.out _ _ ?_ (fun hHeld => ?_)
   ·try dsimp only
    go_keep
   clear hK K
   try simp only [Act.put, tS]
   refine wpR 5 rfl fun K hK => ?_
   go_simp
   go_at_call 122
   refine (mDo_bad p c cnt bs k a n v x t0 tl tc _ (Buf.drew (Buf.alloc HB3.out _)) (by rw [HEt.out]; simpa using hEb)).mono ?_
   rintro e w4 ⟨rfl, b4⟩
   rw [HEt.out]
   unfold anV
   have E4 := Lib.hid (HT0.out.below b4 (by rw [World.size_drew, World.size_alloc]; exact Nat.lt_succ_self _))
   obtain ⟨e40, e41, e42⟩ := Blk.c3 E4.out
   have e50 := E4.out.frozen 0
   have e51 := E4.out.frozen 1
   have e52 := E4.out.frozen 2
   have hcW := fun o => b4.cell (p := ⟨W, o, none⟩) HSWa.out
   have hc := fun o => b4.cell (p := ⟨w1.heap.size, o, none⟩) HSZa.out
   have nW1 : w3.heap.size ≠ W := by omega
   have nL1 : w3.heap.size ≠ w1.heap.size := by omega
   go_wp2_with fail
   refine hK.out _ _ ?_ (fun hHeld => ?_)
   ·try dsimp only
    go_keep
   clear hK K
   try simp only [Act.put, tS]
   refine wpT 6 rfl ?_
   try simp only [Act.put, tS]
   refine wpT 7 rfl ?_
   try simp only [Act.put, tS]
   refine wpT 8 rfl ?_
   try simp only [Act.put, tS]
   refine wpR 10 rfl fun K hK => ?_
   go_simp
   refine hK.out _ _ ?_ (fun hHeld => ?_)
   ·try dsimp only
    go_keep
   clear hK K
   try simp only [Act.put, tS]
   refine wpT 11 rfl ?_
   try simp only [Act.put, tS]
   refine wpAnyH_done (by kernel_rfl) ?_ _
   go_wp2_with fail
   go_meet
   rw [World.size_drew, World.size_alloc] at b4
   have B4 : Below w3.heap.size w3 w4 := ((Below.refl _ w3).alloc (Nat.le_refl _) _).trans (bel_drew0 (b4.mono (Nat.le_succ _)))
   exact ⟨_, rfl, rfl, by rw [hcE.out]; exact ((B4.setCell (p := ⟨w3.heap.size, 0, none⟩) (Nat.le_refl _) _).setCell (p := ⟨w3.heap.size, 1, none⟩) (Nat.le_refl _) _).setCell (p := ⟨w3.heap.size, 2, none⟩) (Nat.le_refl _) _⟩
 case rest =>
  obtain ⟨T, rfl, rfl, bx⟩ := hcut
  have A5 := Lib.hid ((HA.out.below B3 al).below bx (by rw [hcE.out]; have := B3.size; omega))
  have B5 : Below w.heap.size w wc := B3.trans (bx.mono (by rw [hcE.out]; exact B3.size))
  clear W3 l0 l1 l2 l3 l4 l5 bx
  have y1 := A5.out.cell 1
  have g1 := A5.out.frozen 1
  simp only [List.getElem?_cons_zero, List.getElem?_cons_succ] at y1
  go_wp2
  go_ret
  exact ⟨rfl, A5.out.set 1 _, Keep.setCell (M := (· = ab)) (Below.keeps B5) (p := ⟨ab, 1, none⟩) (.inl rfl) _⟩
end Go.Proofs.YtggjhleomocojaaGreat
namespace Go.Proofs.YtggjhleomocojaaGreat
set_option maxRecDepth 100000
open Go.RowKit
set_option linter.unusedVariables false
set_option linter.unusedSimpArgs false
inductive Kd where
 | no
 | wo
 | row
 | ac (i : Nat)
 | tr
 | tb
 | ma (i : Nat)
 | bu
def evL (e : Ev × Value × Value) : List Value := evC e.1.pk e.1.pa e.1.pn e.1.c e.2.1 e.1.x e.2.2
structure EvsIn (w : World) (κ : Nat → Kd) (k : Kd) (es : List (Ev × Value × Value)) : Prop where
 r1 : ∀ e ∈ es, RdB w e.2.1 e.1.c.b
 r2 : ∀ e ∈ es, RdB w e.2.2 e.1.x.b
 k1 : ∀ e ∈ es, ∀ i, e.2.1.ownBlock = some i → κ i = k
 k2 : ∀ e ∈ es, ∀ i, e.2.2.ownBlock = some i → κ i = k
def TrIn (w : World) (κ : Nat → Kd) (tv : Value) (tr : List Ev) : Prop :=
 ∃ es : List (Ev × Value × Value), es.map (·.1) = tr ∧ w.ownsRow 0 76 12 tv es.length (es.flatMap evL) ∧ (∀ i, tv.ownBlock = some i → κ i = .tr) ∧ EvsIn w κ .tb es
structure WoIn (C : Fam) (w : World) (κ : Nat → Kd) (W p c : Nat) (av tv : Value) (ab : Nat → Nat) (S : SW C.M.σ) : Prop where
 hd : Blk w W [.pointer (some ⟨p, 0, none⟩), av, .int .i64 S.clk, tv]
 kW : κ W = .wo
 buf : Buf w p c S.cnt S.bs
 kp : κ p = .bu
 kc : κ c = .bu
 row : (S.acts.length = 0 ∧ av = nilSl) ∨ ∃ g cap, av = .slice (some ⟨g, 0, none⟩) S.acts.length cap ∧ S.acts.length ≤ cap ∧ cap ≤ maxLen ∧ κ g = .row ∧ ∀ i, i < S.acts.length → w.cell? ⟨g, i, none⟩ = some (.pointer (some ⟨ab i, 0, none⟩))
 act : ∀ i a, S.acts[i]? = some a → κ (ab i) = .ac i ∧ AcIn C w (fun k => κ k = .ma i) (ab i) a
 tr : TrIn w κ tv S.tr
 all : ∀ k, κ k ≠ .no → k < w.heap.size
variable {w w' : World} {K : Nat → Prop}
theorem ownsRow_keep {B E s n : Nat} {v : Value} {xs : List Value} (h : w.ownsRow B E s v n xs) (k : Keep K w w') (hd : ∀ i, v.ownBlock = some i → ¬ K i) : w'.ownsRow B E s v n xs := by
 obtain ⟨h1, h2⟩ := h
 refine ⟨h1, h2.imp id ?_⟩
 rintro ⟨g, cap, cur, e1, e2, e3, e4⟩
 exact ⟨g, cap, cur, e1, e2, by rw [k.block g (by have := Array.getElem?_eq_some_iff.1 e3; exact this.1) (hd g (by rw [e1]; rfl))]; exact e3, e4⟩
theorem EvsIn.keep {κ κ' : Nat → Kd} {k : Kd} {es : List (Ev × Value × Value)} (h : EvsIn w κ k es) (kp : Keep K w w') (hd : ∀ i, κ i = k → ¬ K i) (hk : ∀ i, κ i = k → κ' i = k) : EvsIn w' κ' k es :=
 ⟨fun e he => (h.r1 e he).keep kp fun _ i hi => hd i (h.k1 e he i hi), fun e he => (h.r2 e he).keep kp fun _ i hi => hd i (h.k2 e he i hi), fun e he i hi => hk i (h.k1 e he i hi), fun e he i hi => hk i (h.k2 e he i hi)⟩
theorem TrIn.keep {κ κ' : Nat → Kd} {tv : Value} {tr : List Ev} (h : TrIn w κ tv tr) (kp : Keep K w w') (hd : ∀ i, κ i = .tr ∨ κ i = .tb → ¬ K i) (hk : ∀ i, κ i = .tr ∨ κ i = .tb → κ' i = κ i) : TrIn w' κ' tv tr := by
 obtain ⟨es, e, ho, hb, he⟩ := h
 exact ⟨es, e, ownsRow_keep ho kp fun i hi => hd i (.inl (hb i hi)), fun i hi => by rw [hk i (.inl (hb i hi))]; exact hb i hi, he.keep kp (fun i hi => hd i (.inr hi)) (fun i hi => by rw [hk i (.inr hi)]; exact hi)⟩
variable {C : Fam} {κ : Nat → Kd} {W p c : Nat} {av tv : Value} {ab : Nat → Nat}
theorem WoIn.keep {S : SW C.M.σ} (h : WoIn C w κ W p c av tv ab S) (kp : Keep K w w') (hd : ∀ i, κ i ≠ .no → ¬ K i) : WoIn C w' κ W p c av tv ab S where
 hd := h.hd.keep kp (hd _ (by rw [h.kW]; nofun))
 kW := h.kW
 buf := h.buf.keep kp (hd _ (by rw [h.kp]; nofun)) (hd _ (by rw [h.kc]; nofun))
 kp := h.kp
 kc := h.kc
 row := by
  refine h.row.imp id ?_
  rintro ⟨g, cap, e1, e2, e3, e4, e5⟩
  exact ⟨g, cap, e1, e2, e3, e4, fun i hi => (kp.cell _ (h.all g (by rw [e4]; nofun)) (hd g (by rw [e4]; nofun))).trans (e5 i hi)⟩
 act := fun i a hi => by
  obtain ⟨e, ha⟩ := h.act i a hi
  exact ⟨e, ha.keep kp (fun k hk => hd k (by rw [hk]; nofun)) (hd _ (by rw [e]; nofun))⟩
 tr := h.tr.keep kp (fun i hi => hd i (by rcases hi with hi | hi <;> rw [hi] <;> nofun)) (fun _ _ => rfl)
 all := fun k hk => Nat.lt_of_lt_of_le (h.all k hk) kp.size
theorem WoIn.below {S : SW C.M.σ} (h : WoIn C w κ W p c av tv ab S) (b : Below w.heap.size w w') : WoIn C w' κ W p c av tv ab S :=
 h.keep (K := fun _ => False) (Below.keeps b) (fun _ _ => id)
theorem WoIn.rowAt {w : World} {S : SW C.M.σ} (h : WoIn C w κ W p c av tv ab S) {n : Nat} (hn : n < S.acts.length) :
  ∃ g cap, av = .slice (some ⟨g, 0, none⟩) S.acts.length cap ∧ S.acts.length ≤ cap ∧ cap ≤ maxLen ∧ κ g = .row ∧ ∀ i, i < S.acts.length → w.cell? ⟨g, i, none⟩ = some (.pointer (some ⟨ab i, 0, none⟩)) := by
 rcases h.row with ⟨h0, _⟩ | h1
 ·omega
 ·exact h1
theorem WoIn.avSl {w : World} {S : SW C.M.σ} (h : WoIn C w κ W p c av tv ab S) : ∃ a cap, av = .slice a S.acts.length cap ∧ S.acts.length ≤ maxLen := by
 rcases h.row with ⟨h0, rfl⟩ | ⟨g, cap, rfl, h1, h2, _⟩
 ·exact ⟨none, 0, by rw [h0]; rfl, by omega⟩
 ·exact ⟨_, _, rfl, by omega⟩
theorem WoIn.cells {w : World} {S : SW C.M.σ} (h : WoIn C w κ W p c av tv ab S) :
  w.cell? ⟨W, 0, none⟩ = some (.pointer (some ⟨p, 0, none⟩)) ∧ w.cell? ⟨W, 1, none⟩ = some av ∧ w.cell? ⟨W, 2, none⟩ = some (.int .i64 S.clk) ∧ w.cell? ⟨W, 3, none⟩ = some tv :=
 ⟨h.hd.cell 0, h.hd.cell 1, h.hd.cell 2, h.hd.cell 3⟩
set_option maxHeartbeats 400000 in
theorem wAt_some {w : World} {S : SW C.M.σ} (h : WoIn C w κ W p c av tv ab S) (n : Nat) (hn : n < S.acts.length) :
  Calls Tryz.prog 88 #[.pointer (some ⟨W, 0, none⟩), .int .i64 n] w fun e w' => e = .returned (.pointer (some ⟨ab n, 0, none⟩)) ∧ w = w' := by
 obtain ⟨g, cap, rfl, h1, h2, h3, h4⟩ := h.rowAt hn
 obtain ⟨c0, c1, c2, c3⟩ := h.cells
 have hc := h4 n hn
 have hn' : (n : Int) < (S.acts.length : Int) := by omega
 have hg : ¬ (S.acts.length : Int) ≤ (n : Int) := by omega
 have hm : S.acts.length ≤ 9223372036854775807 := by unfold maxLen at h2; omega
 clear h h4 c0 c2 c3
 go_enter Tryz.func88, Tryz.ntmps88
 go_wp2
 go_ret
 exact ⟨rfl, rfl⟩
set_option maxHeartbeats 400000 in
theorem wAt_none {w : World} {S : SW C.M.σ} (h : WoIn C w κ W p c av tv ab S) (n : Int) (hn : n < 0 ∨ (S.acts.length : Int) ≤ n) :
  Calls Tryz.prog 88 #[.pointer (some ⟨W, 0, none⟩), .int .i64 n] w fun e w' => e = .returned (.pointer none) ∧ w = w' := by
 obtain ⟨c0, c1, c2, c3⟩ := h.cells
 obtain ⟨a, cap, rfl, hm⟩ := h.avSl
 unfold maxLen at hm
 clear h c0 c2 c3
 by_cases h0 : n < 0
 ·clear hn
  go_enter Tryz.func88, Tryz.ntmps88
  go_wp2
  go_ret
  exact ⟨rfl, rfl⟩
 ·have h1 : (S.acts.length : Int) ≤ n := by omega
  clear hn
  go_enter Tryz.func88, Tryz.ntmps88
  go_wp2
  go_ret
  exact ⟨rfl, rfl⟩
end Go.Proofs.YtggjhleomocojaaGreat
