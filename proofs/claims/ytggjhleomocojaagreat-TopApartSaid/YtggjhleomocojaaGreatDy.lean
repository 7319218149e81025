/- ring.Drain: it is made. Conditions: as each says. ring.Mend: it is made. Conditions: as each says. ring.Drainer's Messages, ring.Mender's Bytes. Conditions: as each says. -/
import Derived.Test.YtggjhleomocojaaGreatYw
import Derived.Test.YtggjhleomocojaaGreatUr
section
namespace Go.Proofs.YtggjhleomocojaaGreat
set_option maxRecDepth 100000
open Go.RowKit
set_option linter.unusedVariables false
set_option linter.unusedSimpArgs false
variable {w : World} {q bx : Nat}
theorem draOwn {b s T mo : Int} (hb : Blk w q [.pointer none, .nilFunc, .nilFunc, .bool false, .int .i64 b, .int .i64 s, .int .i64 T, .int .i64 mo, .slice none 0 0]) (hx : Blk w bx [.pointer (some ⟨q, 0, none⟩)]) (ne : bx ≠ q) (hT : T ≤ 64) (hbb : -9223372036854775808 ≤ b ∧ b ≤ 9223372036854775807) (hbs : -9223372036854775808 ≤ s ∧ s ≤ 9223372036854775807) :
  (draK bx).P ((w.setCell ⟨q, 1, none⟩ (.func (.func 44) #[.pointer (some ⟨q, 0, none⟩)] #[])).setCell ⟨q, 2, none⟩ (.func (.func 45) #[] #[.pointer (some ⟨bx, 0, none⟩)])) q (fun i => i = q ∨ i = bx) none (⟨b, s, T, mo, []⟩ : DraT) := by
 have lq := hb.lt
 have lx := hx.lt
 have ks : Keep (fun i => i = q) w ((w.setCell ⟨q, 1, none⟩ (.func (.func 44) #[.pointer (some ⟨q, 0, none⟩)] #[])).setCell ⟨q, 2, none⟩ (.func (.func 45) #[] #[.pointer (some ⟨bx, 0, none⟩)])) := ((Keep.refl (fun i => i = q) w).setCell (p := ⟨q, 1, none⟩) (.inl rfl) _).setCell (p := ⟨q, 2, none⟩) (.inl rfl) _
 have zs := ks.size
 refine ⟨fun _ => False, fun _ => False, fun _ => False, .pointer none, .slice none 0 0, ⟨(hb.set 1 _).set 2 _, hx.keep ks ne, MsIn.none2 _ _ _, rfl, ⟨hT, ?_⟩, fun x hx => (List.not_mem_nil hx).elim, hbb, hbs, fun i hi => ?_, fun i hi => hi.elim, fun i hi => hi.elim, ne⟩, ?_, fun i hi => by rcases hi with hi | hi <;> omega⟩
 ·show (0 : Int) + 1024 * max T 0 ≤ 66560
  omega
 ·rcases hi with hi | hi | hi <;> exact hi.elim
 ·rintro i (hi | hi | hi | hi | hi)
  ·exact .inl hi
  ·exact .inr hi
  ·exact hi.elim
  ·exact hi.elim
  ·exact hi.elim
set_option maxHeartbeats 4000000 in
theorem draNew_any (b s tm mo : Int) (w : World) (hb0 : -9223372036854775808 ≤ b) (hb1 : b ≤ 9223372036854775807) (hs0 : -9223372036854775808 ≤ s) (hs1 : s ≤ 9223372036854775807) :
  Calls Tryz.prog 20 #[.agg #[.int .i64 b, .int .i64 s], .int .i64 tm, .int .i64 mo] w fun e w' => ∃ q F, e = .returned (ptr q) ∧ w.heap.size ≤ q ∧ draFam.inv w' F q (draC.start ⟨b, s, min tm 64, mo, []⟩) ∧ (∀ i, F i → w.heap.size ≤ i) ∧ Below w.heap.size w w' := by
 obtain ⟨T, hT⟩ : ∃ T, T = min tm 64 := ⟨_, rfl⟩
 rw [← hT]
 have HT := Lib.hid hT
 clear hT
 go_enter Tryz.func20, Tryz.ntmps20
 go_upto_region 1 with fail
 go_cut [7] from 8 to 13 (fun f wx => f = .pointer (some ⟨w.heap.size + 2, 0, none⟩) ∧ Blk wx (w.heap.size + 1) [.pointer none, .nilFunc, .nilFunc, .bool false, .int .i64 b, .int .i64 s, .int .i64 T, .int .i64 mo, .slice none 0 0] ∧ Blk wx (w.heap.size + 2) [.pointer (some ⟨w.heap.size + 1, 0, none⟩)] ∧ Below w.heap.size w wx)
 case first =>
  rcases Int.lt_trichotomy tm 64 with h0 | h0 | h0
  ·obtain rfl : T = tm := by have := HT.out; omega
   have h1 : ¬ (64 : Int) < T := by omega
   have h2 : T ≤ 64 := by omega
   go_wp2_with fail
   all_goals (go_meet; refine ⟨rfl, ?_, ?_, by go_grown⟩)
   ·exact Blk.alloc (by have := Blk.made (w.alloc (Obj.cells #[.int .i64 b, .int .i64 s] 25)) #[.pointer none, .nilFunc, .nilFunc, .bool false, .int .i64 b, .int .i64 s, .int .i64 T, .int .i64 mo, .slice none 0 0] 138; simpa using this) _
   ·have := Blk.made ((w.alloc (Obj.cells #[.int .i64 b, .int .i64 s] 25)).alloc (Obj.cells #[.pointer none, .nilFunc, .nilFunc, .bool false, .int .i64 b, .int .i64 s, .int .i64 T, .int .i64 mo, .slice none 0 0] 138)) #[.pointer (some ⟨w.heap.size + 1, 0, none⟩)] 61; simpa using this
  ·subst h0
   obtain rfl : T = 64 := by have := HT.out; omega
   go_wp2_with fail
   all_goals (go_meet; refine ⟨rfl, ?_, ?_, by go_grown⟩)
   ·exact Blk.alloc (by have := Blk.made (w.alloc (Obj.cells #[.int .i64 b, .int .i64 s] 25)) #[.pointer none, .nilFunc, .nilFunc, .bool false, .int .i64 b, .int .i64 s, .int .i64 64, .int .i64 mo, .slice none 0 0] 138; simpa using this) _
   ·have := Blk.made ((w.alloc (Obj.cells #[.int .i64 b, .int .i64 s] 25)).alloc (Obj.cells #[.pointer none, .nilFunc, .nilFunc, .bool false, .int .i64 b, .int .i64 s, .int .i64 64, .int .i64 mo, .slice none 0 0] 138)) #[.pointer (some ⟨w.heap.size + 1, 0, none⟩)] 61; simpa using this
  ·obtain rfl : T = 64 := by have := HT.out; omega
   have h1 : ¬ tm < (64 : Int) := by omega
   have h2 : ¬ tm ≤ 64 := by omega
   go_wp2_with fail
   all_goals (go_meet; refine ⟨rfl, ?_, ?_, by go_grown⟩)
   ·exact Blk.alloc (by have := Blk.made (w.alloc (Obj.cells #[.int .i64 b, .int .i64 s] 25)) #[.pointer none, .nilFunc, .nilFunc, .bool false, .int .i64 b, .int .i64 s, .int .i64 64, .int .i64 mo, .slice none 0 0] 138; simpa using this) _
   ·have := Blk.made ((w.alloc (Obj.cells #[.int .i64 b, .int .i64 s] 25)).alloc (Obj.cells #[.pointer none, .nilFunc, .nilFunc, .bool false, .int .i64 b, .int .i64 s, .int .i64 64, .int .i64 mo, .slice none 0 0] 138)) #[.pointer (some ⟨w.heap.size + 1, 0, none⟩)] 61; simpa using this
 case rest =>
  obtain ⟨rfl, hb, hx, hw⟩ := hcut
  have HB := Lib.hid hb
  have HX := Lib.hid hx
  have HW := Lib.hid hw
  have c1 : wc.cell? ⟨w.heap.size + 1, 1, none⟩ = some .nilFunc := Blk.cell hb 1
  have c2 : wc.cell? ⟨w.heap.size + 1, 2, none⟩ = some .nilFunc := Blk.cell hb 2
  have x0 : wc.cell? ⟨w.heap.size + 2, 0, none⟩ = some (.pointer (some ⟨w.heap.size + 1, 0, none⟩)) := Blk.cell hx 0
  have f1 := hb.frozen 1
  have f2 := hb.frozen 2
  have lq := hb.lt
  have lx := hx.lt
  clear hb hx hw
  have HP := Lib.hid (draOwn (q := w.heap.size + 1) (bx := w.heap.size + 2) HB.out HX.out (by omega) (by have := HT.out; omega) ⟨hb0, hb1⟩ ⟨hs0, hs1⟩)
  go_wp2_with fail
  go_region
  go_wp2_with fail
  refine (chStart_g (draK (w.heap.size + 2)) (dra_ty _) _ (w.heap.size + 1) _ none (⟨b, s, T, mo, []⟩ : DraT) (draC.fu ⟨b, s, T, mo, []⟩) ((draK (w.heap.size + 2)).below HP.out (bel_drewN 1 (Below.refl _ _))) (dra_enough.mo _)).mono ?_
  rintro e w5 ⟨rfl, ho5, F5, hp5, hg5, k5⟩
  have z5 := k5.size
  simp at z5
  have HP5 := Lib.hid hp5
  have HO5 := Lib.hid ho5
  have HG5 : Hid (∀ i, F5 i → w.heap.size ≤ i) := Lib.hid (fun i hi => (hg5 i hi).elim (fun h => by omega) (fun h => by simp at h; omega))
  have HB5 : Hid (Below w.heap.size w w5) := Lib.hid ((bel_drewN 1 ((HW.out.setCell (by show w.heap.size ≤ w.heap.size + 1; omega) _).setCell (by show w.heap.size ≤ w.heap.size + 1; omega) _)).trans (k5.below (by simp; omega) (fun i hi h => by omega)))
  have x5 : w5.cell? ⟨w.heap.size + 2, 0, none⟩ = some (.pointer (some ⟨w.heap.size + 1, 0, none⟩)) := by
   obtain ⟨O5, R5, F15, nv5, ov5, hP5, _, _⟩ := HP5.out
   exact Blk.cell hP5.box 0
  clear hp5 hg5 k5 ho5
  go_wp2
  go_ret
  exact ⟨w.heap.size + 1, F5, rfl, by omega, ⟨⟨w.heap.size + 2, HP5.out⟩, dra_enough.mo _, HO5.out⟩, HG5.out, HB5.out⟩
def draRest (cur : Option GetM) : List (Int × List Int) := match cur with
 | none => []
 | some m => m.out
structure MsN (w0 w : World) (out : List (Int × List Int)) (ov : Value) : Prop where
 ms : ∃ O R, MsIn w O R ov out ∧ (∀ i, O i ∨ R i → w0.heap.size ≤ i ∧ i < w.heap.size) ∧ ∀ i, O i → ¬ R i
 bel : Below w0.heap.size w0 w
theorem MsN.step {w0 wr w3 : World} {B : Nat} {out out' : List (Int × List Int)} {ov v3 : Value} {O R O2 : Nat → Prop} (h : MsN w0 wr out ov) (k3 : Keep R wr w3) (ms : MsIn w3 (fun i => O i ∨ O2 i) (fun i => R i ∨ (B ≤ i ∧ i < w3.heap.size)) v3 out') (hor : ∀ i, O i ∨ R i → w0.heap.size ≤ i ∧ i < wr.heap.size) (hdj : ∀ i, O i → ¬ R i)
  (h2 : ∀ i, O2 i → wr.heap.size ≤ i ∧ i < B) (hB : wr.heap.size ≤ B) (hB3 : B ≤ w3.heap.size) : MsN w0 w3 out' v3 := by
 have z3 := k3.size
 have z0 := h.bel.size
 refine ⟨⟨_, _, ms, ?_, ?_⟩, h.bel.trans (k3.below h.bel.size (fun i hi hr => by have := hor i (.inr hr); omega))⟩
 ·rintro i ((hi | hi) | (hi | hi))
  ·have := hor i (.inl hi)
   omega
  ·have := h2 i hi
   omega
  ·have := hor i (.inr hi)
   omega
  ·omega
 ·rintro i (hi | hi) (hr | hr)
  ·exact hdj i hi hr
  ·have := hor i (.inl hi)
   omega
  ·have := h2 i hi
   have := hor i (.inr hr)
   omega
  ·have := h2 i hi
   omega
set_option maxHeartbeats 4000000 in
theorem draMsgs_ms {F : Nat → Prop} {cur : Option GetM} {t : DraT} (h : (draK bx).P w q F cur t) :
  Calls Tryz.prog 24 #[ptr q] w fun e w' => ∃ v, e = .returned v ∧ MsN w w' (t.out ++ draRest cur) v := by
 obtain ⟨O0, R0, F1, nv, ov0, hP, _, _⟩ := h
 have c0 : w.cell? ⟨q, 0, none⟩ = some nv := Blk.cell hP.blk 0
 have c3 : w.cell? ⟨q, 3, none⟩ = some (.bool cur.isSome) := Blk.cell hP.blk 3
 have c8 : w.cell? ⟨q, 8, none⟩ = some ov0 := Blk.cell hP.blk 8
 have hlt := hP.blk.lt
 have HR := Lib.hid (hP.ms.rdms (fun i hi => (hP.lt i (.inr (.inl hi))).1))
 obtain ⟨la, lc, rfl⟩ := hP.ms.sl
 have HC := Lib.hid hP.c
 have HDS := Lib.hid hP.ds
 have hbd := hP.bd
 have HL0 : Hid (t.out.length ≤ 66560) := Lib.hid (by omega)
 have HF1 : Hid (∀ m, cur = some m → ∃ p, nv = ptr p ∧ GetF w F1 p m) := Lib.hid (fun m hm => by have := hP.c; rw [hm] at this; exact this)
 have HF0 : Hid (cur = none → nv = .pointer none) := Lib.hid (fun hm => by have := hP.c; rw [hm] at this; exact this)
 obtain ⟨l, hl⟩ : ∃ l, l = t.out := ⟨_, rfl⟩
 rw [← hl] at c8 HR HDS HL0 ⊢
 obtain ⟨N, hN⟩ : ∃ N, N = l.length := ⟨_, rfl⟩
 rw [← hN] at c8
 have HNL := Lib.hid hN
 clear hP hbd hl hN
 unfold ptr
 go_enter Tryz.func24, Tryz.ntmps24
 go_wp2_with fail
 go_loopg [3, 13] (N + 1) (fun gk ov i wr => ∃ (k : Nat), gk + k = N + 1 ∧ k ≤ N ∧ i = .int .i64 k ∧ MsN w wr (l.take k) ov)
 case atStart => exact ⟨0, by omega, by omega, rfl, by rw [List.take_zero]; exact ⟨⟨fun _ => False, fun _ => False, MsIn.none2 _ _ _, fun i h => h.elim False.elim False.elim, fun i h => h.elim⟩, Below.refl _ _⟩⟩
 case round =>
  obtain ⟨k, hgk, hkN, rfl, hF⟩ := hrel
  have HF := Lib.hid hF
  have HGK := Lib.hid hgk
  have hn0 : N ≤ 66560 := by have := HNL.out; have := HL0.out; omega
  have W1 : IntKind.i64.wrap ((k : Int) + 1) = (k : Int) + 1 := IntWalk.i64_in _ ⟨by omega, by omega⟩
  have HN0 := Lib.hid hn0
  have zr := hF.bel.size
  have hlr : q < wr.heap.size := by omega
  have d0 := (hF.bel.cell (p := ⟨q, 0, none⟩) hlt).trans c0
  have d3 := (hF.bel.cell (p := ⟨q, 3, none⟩) hlt).trans c3
  have HBE := Lib.hid hF.bel
  obtain ⟨O, R, hms, hor, hdj⟩ := hF.ms
  have HOR := Lib.hid hor
  have HDJ := Lib.hid hdj
  obtain ⟨va0, vc0, rfl⟩ := hms.sl
  have HFL : Hid ((l.take k).length = k) := Lib.hid (by rw [List.length_take]; have := HNL.out; omega)
  rw [HFL.out] at hms
  have HMS := Lib.hid hms
  rw [HFL.out]
  clear hF hgk hn0 hms hor hdj
  by_cases hkl : k < N
  ·obtain ⟨x, hx⟩ : ∃ x, l[k]? = some x := ⟨_, List.getElem?_eq_getElem (by have := HNL.out; omega)⟩
   have hki : (k : Int) < (N : Int) := by omega
   obtain ⟨g, off, sa, sl, sc, rfl, hg, m0, m1, hrd⟩ := (HR.out.below HBE.out).at_ hx
   have RX := Lib.hid hrd
   have HXB := Lib.hid (HDS.out x (List.mem_of_getElem? hx))
   have HTK : Hid (l.take (k + 1) = l.take k ++ [(x.1, x.2)]) := Lib.hid (by rw [List.take_add_one, hx]; rfl)
   clear hx hrd
   go_upto_region 7 with fail
   refine wp_region_held_drew (S := (fun w' => w'.cell? ⟨wr.heap.size, 0, none⟩ = some (.int .i32 x.1) ∧ w'.cell? ⟨wr.heap.size, 1, none⟩ = some (.slice sa sl sc))) (by kernel_rfl) ?_ (fun hHeld => ?_)
   ·try dsimp only
    go_keep
   refine wpT 0 rfl ?_
   try simp only [Act.put, tS]
   refine wpT 1 rfl ?_
   try simp only [Act.put, tS]
   refine wpT 2 rfl ?_
   try simp only [Act.put, tS]
   refine wpT 3 rfl ?_
   try simp only [Act.put, tS]
   refine wpT 4 rfl ?_
   try simp only [Act.put, tS]
   refine wpR 5 rfl fun K hK => ?_
   go_simp
   refine (clone_any _ x.2 _ (RX.out.below (by go_grown)) (by have := HXB.out; omega)).mono ?_
   rintro e w2 ⟨sv, rfl, ho2, b2⟩
   obtain ⟨va, vn, vc, rfl⟩ := own_isSl ho2
   have HO2 := Lib.hid ho2
   have HO2L : Hid (∀ i, (Value.slice va vn vc).ownBlock = some i → wr.heap.size ≤ i ∧ i < w2.heap.size) := Lib.hid (fun i hi => by have := World.ownsRow.lt ho2 i hi; simp at this; omega)
   have HD3 : Hid (∀ i, O i ∨ (Value.slice va vn vc).ownBlock = some i → ¬ R i) := Lib.hid (fun i hi h => by rcases hi with hi | hi; exact HDJ.out i hi h; have h1 := HO2L.out i hi; have h2 := HOR.out i (.inr h); omega)
   have B2 : Hid (Below wr.heap.size wr w2) := Lib.hid ((by go_grown : Below wr.heap.size wr _).trans (b2.mono (by simp)))
   have z2 := b2.size
   simp at z2
   have HM2 : Hid (w2.cell? ⟨wr.heap.size, 0, none⟩ = some (.int .i32 x.1) ∧ w2.cell? ⟨wr.heap.size, 1, none⟩ = some (.slice sa sl sc)) := Lib.hid ⟨(b2.cell (p := ⟨wr.heap.size, 0, none⟩) (by simp)).trans hHeld.1, (b2.cell (p := ⟨wr.heap.size, 1, none⟩) (by simp)).trans hHeld.2⟩
   clear ho2 b2
   go_wp2_with fail
   refine hK.out _ _ ?_ (fun hHeld => ?_)
   ·try dsimp only
    exact HM2.out
   clear hK K
   try simp only [Act.put, tS]
   refine wpT 6 rfl ?_
   try simp only [Act.put, tS]
   refine wpR 7 rfl fun K hK => ?_
   go_simp
   refine hK.out _ _ ?_ (fun hHeld => ?_)
   ·try dsimp only
    go_keep
   clear hK K
   try simp only [Act.put, tS]
   refine wpR 8 rfl fun K hK => ?_
   have hnew := Lib.hid (Blk.made w2 #[.int .i32 x.1, .slice va vn vc] 34)
   have B3 : Hid (Below wr.heap.size wr (w2.alloc (Obj.cells #[.int .i32 x.1, .slice va vn vc] 34))) := Lib.hid (B2.out.trans ((Below.refl w2.heap.size w2).alloc (Nat.le_refl _) _ |>.mono (by omega)))
   have b4 : Below w2.heap.size w2 (w2.alloc (Obj.cells #[.int .i32 x.1, .slice va vn vc] 34)) := (Below.refl w2.heap.size w2).alloc (Nat.le_refl _) _
   have HMS3 := Lib.hid (HMS.out.keep (Below.keeps (M := fun _ => False) B3.out) (fun _ _ => id) (fun _ _ => id))
   refine step_appMs1 (by rfl) _ _ (by rfl) (O := O) (R := R) (O2 := fun i => (Value.slice va vn vc).ownBlock = some i) (v := .slice va0 k vc0) (dv := .slice va vn vc) (l := l.take k) (t := x.1) (d := x.2) (by rfl) w2.heap.size (by rfl) hnew.out HMS3.out (HO2.out.rd.below b4) (fun i hi => hi) (by have := HFL.out; have := HN0.out; omega) HD3.out ?_
   intro v3 w3 ms3 k3
   have z3 := k3.size
   simp only [World.size_alloc] at z3
   obtain ⟨xa, xn, xc, rfl⟩ : ∃ a n c, v3 = .slice a n c := by obtain ⟨a, c, e⟩ := ms3.sl; exact ⟨_, _, _, e⟩
   have K3 : Hid (Keep R wr w3) := Lib.hid ((Below.keeps (M := R) B3.out).trans k3)
   have MS3 := Lib.hid ms3
   have hs3 : (fun w' : World => w'.cell? ⟨wr.heap.size, 0, none⟩ = some (.int .i32 x.1) ∧ w'.cell? ⟨wr.heap.size, 1, none⟩ = some (.slice sa sl sc)) w3 := ⟨(k3.cell (b := wr.heap.size) 0 (by simp; omega) (fun h => by have := HOR.out _ (.inr h); omega)).trans ((b4.cell (p := ⟨wr.heap.size, 0, none⟩) (by show wr.heap.size < w2.heap.size; omega)).trans HM2.out.1), (k3.cell (b := wr.heap.size) 1 (by simp; omega) (fun h => by have := HOR.out _ (.inr h); omega)).trans ((b4.cell (p := ⟨wr.heap.size, 1, none⟩) (by show wr.heap.size < w2.heap.size; omega)).trans HM2.out.2)⟩
   have HS3 := Lib.hid hs3
   clear k3 ms3 hs3
   refine hK.out _ _ ?_ (fun hHeld => ?_)
   ·try dsimp only
    exact HS3.out
   clear hK K
   try simp only [Act.put, tS]
   refine wpT 9 rfl ?_
   try simp only [Act.put, tS]
   refine wpAnyH_done (by kernel_rfl) ?_ _
   clear hHeld
   have HFE := Lib.hid (MsN.step ⟨⟨O, R, HMS.out, HOR.out, HDJ.out⟩, HBE.out⟩ K3.out MS3.out HOR.out HDJ.out (fun i hi => by have := HO2L.out i hi; simp; omega) (by simp; omega) (by simp; omega))
   go_wp2_with fail
   have hn64 := HN0.out
   go_roundg (N - k)
   case measure => have := HGK.out; omega
   case rel => exact ⟨k + 1, by omega, by omega, by go_num, by rw [HTK.out]; exact HFE.out⟩
  ·obtain rfl : k = N := by omega
   have hnl : ¬ (k : Int) < (k : Int) := by omega
   have HTK : Hid (l.take k = l) := Lib.hid (List.take_of_length_le (by have := HNL.out; omega))
   rw [HTK.out] at HMS
   cases cur with
   | none =>
    simp only [Option.isSome_none] at d3
    go_wp2
    go_ret
    refine ⟨_, rfl, ⟨O, R, ?_, HOR.out, HDJ.out⟩, HBE.out⟩
    show MsIn wr _ _ _ (l ++ [])
    rw [List.append_nil]
    exact HMS.out
   | some m =>
    simp only [Option.isSome_some] at d3
    obtain ⟨p, rfl, hg⟩ := HF1.out m rfl
    have HG := Lib.hid (hg.below HBE.out)
    have HGF := Lib.hid hg.2.2.1.lo
    unfold ptr at d0
    clear hg
    go_wp2_with fail
    refine (gMessages_f wr HG.out).mono ?_
    rintro e w2 ⟨v, rfl, hms, b2⟩
    obtain ⟨ga, gc, rfl⟩ := hms.sl
    obtain ⟨n2, hn2⟩ : ∃ n2, n2 = m.out.length := ⟨_, rfl⟩
    have HMS2 := Lib.hid hms
    have B2 := Lib.hid b2
    have z2 := b2.size
    have HMSB := Lib.hid (HMS.out.keep (Below.keeps (M := fun _ => False) b2) (fun _ _ => id) (fun _ _ => id))
    clear hms b2 d0 d3
    go_wp2_with (refine list_appMs2 rfl (.tmp 32) (.tmp 38) rfl (O := O) (R := R) (O2 := fun i => wr.heap.size ≤ i ∧ i < w2.heap.size) (R2 := fun i => wr.heap.size ≤ i) (v := .slice va0 k vc0) (v2 := .slice ga m.out.length gc) (l := l) (l2 := m.out) rfl rfl HMSB.out HMS2.out (by have := HL0.out; have := HGF.out; omega) (fun i hi hr => hi.elim (fun h => HDJ.out i h hr) (fun h => by have := HOR.out i (.inr hr); omega)) ?_)
    intro v3 w3 ms3 k3
    obtain ⟨xa, xn, xc, rfl⟩ : ∃ a n c, v3 = .slice a n c := by
     obtain ⟨a, c, e⟩ := ms3.sl
     exact ⟨_, _, _, e⟩
    have HE := Lib.hid (MsN.step (w0 := w) (B := w2.heap.size) ⟨⟨O, R, HMS.out, HOR.out, HDJ.out⟩, HBE.out⟩ ((Below.keeps (M := R) B2.out).trans k3) ms3 HOR.out HDJ.out (fun i hi => hi) (by omega) k3.size)
    clear ms3 k3
    go_wp2
    go_ret
    exact ⟨_, rfl, HE.out⟩
theorem draMsgs_any {F : Nat → Prop} {cur : Option GetM} {t : DraT} (h : (draK bx).P w q F cur t) :
  Calls Tryz.prog 24 #[ptr q] w fun e w' => ∃ v, e = .returned v ∧ MsIn w' (fun i => w.heap.size ≤ i ∧ i < w'.heap.size) (fun i => w.heap.size ≤ i) v (t.out ++ draRest cur) ∧ Below w.heap.size w w' := by
 refine (draMsgs_ms h).mono ?_
 rintro e w' ⟨v, rfl, h9⟩
 obtain ⟨O9, R9, hm9, ho9, _⟩ := h9.ms
 exact ⟨_, rfl, hm9.mono (fun i hi => ho9 i (.inl hi)) (fun i hi => (ho9 i (.inr hi)).1), h9.bel⟩
end Go.Proofs.YtggjhleomocojaaGreat
end
