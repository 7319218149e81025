/- Contracts of cont.Cont's Out, of what it goes on with, and of Zero. Conditions: as each says. -/
import Derived.Test.YtggjhleomocojaaGreatUa
import Derived.Test.YtggjhleomocojaaGreatKe
import Derived.Deep.CutRange
import Derived.Deep.RegionHeld3
import Derived.Deep.RegionLaw
namespace Go.Proofs.YtggjhleomocojaaGreat
set_option maxRecDepth 100000
open Go.RowKit
set_option linter.unusedVariables false
set_option linter.unusedSimpArgs false
theorem box6 (w : World) (x0 x1 x2 x3 x4 x5 : Value) (t0 t1 t2 t3 t4 t5 : TypeId) : ∃ w6, w6 = ((((((w.alloc (.cells #[x0] t0)).alloc (.cells #[x1] t1)).alloc (.cells #[x2] t2)).alloc (.cells #[x3] t3)).alloc (.cells #[x4] t4)).alloc (.cells #[x5] t5)) ∧ Blk w6 (w.heap.size) [x0] ∧ Blk w6 (w.heap.size + 1) [x1] ∧ Blk w6 (w.heap.size + 1 + 1) [x2] ∧ Blk w6 (w.heap.size + 1 + 1 + 1) [x3] ∧ Blk w6 (w.heap.size + 1 + 1 + 1 + 1) [x4] ∧ Blk w6 (w.heap.size + 1 + 1 + 1 + 1 + 1) [x5] ∧ w6.heap.size = w.heap.size + 1 + 1 + 1 + 1 + 1 + 1 ∧ Below w.heap.size w w6 := by
 refine ⟨_, rfl, ?_, ?_, ?_, ?_, ?_, ?_, by simp, by go_grown⟩
 ·have := (((((Blk.made w #[x0] t0).alloc (.cells #[x1] t1)).alloc (.cells #[x2] t2)).alloc (.cells #[x3] t3)).alloc (.cells #[x4] t4)).alloc (.cells #[x5] t5)
  simpa using this
 ·have := ((((Blk.made (w.alloc (.cells #[x0] t0)) #[x1] t1).alloc (.cells #[x2] t2)).alloc (.cells #[x3] t3)).alloc (.cells #[x4] t4)).alloc (.cells #[x5] t5)
  simpa using this
 ·have := (((Blk.made ((w.alloc (.cells #[x0] t0)).alloc (.cells #[x1] t1)) #[x2] t2).alloc (.cells #[x3] t3)).alloc (.cells #[x4] t4)).alloc (.cells #[x5] t5)
  simpa using this
 ·have := ((Blk.made (((w.alloc (.cells #[x0] t0)).alloc (.cells #[x1] t1)).alloc (.cells #[x2] t2)) #[x3] t3).alloc (.cells #[x4] t4)).alloc (.cells #[x5] t5)
  simpa using this
 ·have := (Blk.made ((((w.alloc (.cells #[x0] t0)).alloc (.cells #[x1] t1)).alloc (.cells #[x2] t2)).alloc (.cells #[x3] t3)) #[x4] t4).alloc (.cells #[x5] t5)
  simpa using this
 ·have := Blk.made (((((w.alloc (.cells #[x0] t0)).alloc (.cells #[x1] t1)).alloc (.cells #[x2] t2)).alloc (.cells #[x3] t3)).alloc (.cells #[x4] t4)) #[x5] t5
  simpa using this
def OuK (w : World) (O : Nat → Prop) (t : Value) (q : Nat) (at0 k n : Int) (hv fv : Value) : Prop :=
 ∃ cb ab kb nb hb fb, t = .func (.func 156) #[] #[ptr cb, ptr ab, ptr kb, ptr nb, ptr hb, ptr fb] ∧ (Blk w cb [ptr q] ∧ Blk w ab [.int .i64 at0] ∧ Blk w kb [.int .i64 k] ∧ Blk w nb [.int .i64 n] ∧ Blk w hb [hv] ∧ Blk w fb [fv]) ∧ O cb ∧ O ab ∧ O kb ∧ O nb ∧ O hb ∧ O fb
theorem OuK.keep {w w' : World} {O M : Nat → Prop} {t : Value} {q : Nat} {a k n : Int} {hv fv : Value} (h : OuK w O t q a k n hv fv) (kp : Keep M w w') (hd : ∀ i, O i → ¬ M i) : OuK w' O t q a k n hv fv := by
 obtain ⟨cb, ab, kb, nb, hb, fb, e, ⟨h1, h2, h3, h4, h5, h6⟩, o1, o2, o3, o4, o5, o6⟩ := h
 exact ⟨cb, ab, kb, nb, hb, fb, e, ⟨h1.keep kp (hd _ o1), h2.keep kp (hd _ o2), h3.keep kp (hd _ o3), h4.keep kp (hd _ o4), h5.keep kp (hd _ o5), h6.keep kp (hd _ o6)⟩, o1, o2, o3, o4, o5, o6⟩
theorem OuK.mono {w : World} {O O' : Nat → Prop} {t : Value} {q : Nat} {a k n : Int} {hv fv : Value} (h : OuK w O t q a k n hv fv) (hd : ∀ i, O i → O' i) : OuK w O' t q a k n hv fv := by
 obtain ⟨cb, ab, kb, nb, hb, fb, e, h1, o1, o2, o3, o4, o5, o6⟩ := h
 exact ⟨cb, ab, kb, nb, hb, fb, e, h1, hd _ o1, hd _ o2, hd _ o3, hd _ o4, hd _ o5, hd _ o6⟩
theorem enOut1 : En 156 := enters_of Tryz.func156 (by kernel_rfl) rfl
set_option maxHeartbeats 2000000 in
theorem cOut_end (q : Nat) (at0 n : Int) (hs : Option Addr) (hl hc : Nat) (g : Nat) (gc : Array Value) (w : World) (hn : n < 1) (hen : En g) (Q : World → Prop)
  (hF : ∀ w1, Below w.heap.size w w1 → Calls Tryz.prog g (#[.slice hs hl hc] ++ gc) w1 fun e w' => e = .returned (.tuple #[]) ∧ Q w') :
  Calls Tryz.prog 129 #[.pointer (some ⟨q, 0, none⟩), .int .i64 at0, .int .i64 n, .slice hs hl hc, .func (.func g) #[] gc] w fun e w' => e = .returned (.tuple #[]) ∧ Q w' := by
 have HF := Lib.hid hF
 unfold En at hen
 clear hF
 go_enter Tryz.func129, Tryz.ntmps129
 go_wp2_with fail
 refine (HF.out _ (by go_grown)).mono ?_
 rintro e w' ⟨rfl, hQ⟩
 go_wp2
 exact bodyPost_ret (v := .tuple #[]) (results_none rfl _ _ _) rfl ⟨rfl, hQ⟩
set_option maxHeartbeats 2000000 in
theorem cOut_more (q : Nat) (c : Acc) (t : Value) (r : List Value) (at0 : Int) (n : Nat) (hs : Option Addr) (hl hc : Nat) (g : Nat) (gc : Array Value) (w : World) (h : Mch w q c t r) (hn : 1 ≤ n) :
  Calls Tryz.prog 129 #[.pointer (some ⟨q, 0, none⟩), .int .i64 at0, .int .i64 n, .slice hs hl hc, .func (.func g) #[] gc] w fun e w' => e = .returned (.tuple #[]) ∧
   ∃ t', Mch w' q ⟨5, at0, min (n : Int) 8, 0, 0, .slice none 0 0⟩ t' r ∧ OuK w' (fun k => w.heap.size ≤ k ∧ k < w'.heap.size) t' q at0 (min (n : Int) 8) n (.slice hs hl hc) (.func (.func g) #[] gc) ∧ Keep (· = q) w w' := by
 have hlt := h.lt
 have H := Lib.hid h
 have q1 : ¬ (n : Int) < 1 := by omega
 clear h
 by_cases h8 : (n : Int) ≤ 8
 ·have hmn : min (n : Int) 8 = (n : Int) := by omega
  rw [hmn]
  clear hmn
  go_enter Tryz.func129, Tryz.ntmps129
  go_wp2_with fail
  obtain ⟨w6, hw6, k0, k1, k2, k3, k4, k5, hs6, b6⟩ := box6 w (.pointer (some ⟨q, 0, none⟩)) (.int .i64 at0) (.int .i64 n) (.slice hs hl hc) (.func (.func g) #[] gc) (.int .i64 (n : Int)) 174 3 3 32 217 3
  rw [← hw6]
  have K0 := Lib.hid k0
  have p0 := k0.cell 0
  have K1 := Lib.hid k1
  have p1 := k1.cell 0
  have K2 := Lib.hid k2
  have p2 := k2.cell 0
  have K3 := Lib.hid k3
  have p3 := k3.cell 0
  have K4 := Lib.hid k4
  have p4 := k4.cell 0
  have K5 := Lib.hid k5
  have p5 := k5.cell 0
  simp only [List.getElem?_cons_zero] at p0 p1 p2 p3 p4 p5
  have H1 := Lib.hid (show Mch w6 q c t r from Blk.below H.out b6 hlt)
  have yq : q < w6.heap.size := by omega
  have B6 := Lib.hid b6
  clear k0 k1 k2 k3 k4 k5 hw6 b6
  go_wp2_with fail
  refine (cDo_any q c t r 5 at0 (n : Int) 0 0 none 0 0 _ _ _ H1.out).mono ?_
  rintro e w2 ⟨rfl, m2, kp⟩
  have z2 := kp.size
  go_wp2
  go_end0
  refine ⟨rfl, _, m2, ⟨w.heap.size, w.heap.size + 1, w.heap.size + 1 + 1 + 1 + 1 + 1, w.heap.size + 1 + 1, w.heap.size + 1 + 1 + 1, w.heap.size + 1 + 1 + 1 + 1, rfl, ⟨?_, ?_, ?_, ?_, ?_, ?_⟩, ?_, ?_, ?_, ?_, ?_, ?_⟩, (Below.keeps B6.out).trans kp⟩
  ·exact K0.out.keep kp (by show ¬ w.heap.size = q; omega)
  ·exact K1.out.keep kp (by show ¬ w.heap.size + 1 = q; omega)
  ·exact K5.out.keep kp (by show ¬ w.heap.size + 1 + 1 + 1 + 1 + 1 = q; omega)
  ·exact K2.out.keep kp (by show ¬ w.heap.size + 1 + 1 = q; omega)
  ·exact K3.out.keep kp (by show ¬ w.heap.size + 1 + 1 + 1 = q; omega)
  ·exact K4.out.keep kp (by show ¬ w.heap.size + 1 + 1 + 1 + 1 = q; omega)
  all_goals exact ⟨by omega, by omega⟩
 ·have hmn : min (n : Int) 8 = 8 := by omega
  rw [hmn]
  clear hmn
  go_enter Tryz.func129, Tryz.ntmps129
  go_wp2_with fail
  obtain ⟨w6, hw6, k0, k1, k2, k3, k4, k5, hs6, b6⟩ := box6 w (.pointer (some ⟨q, 0, none⟩)) (.int .i64 at0) (.int .i64 n) (.slice hs hl hc) (.func (.func g) #[] gc) (.int .i64 8) 174 3 3 32 217 3
  rw [← hw6]
  have K0 := Lib.hid k0
  have p0 := k0.cell 0
  have K1 := Lib.hid k1
  have p1 := k1.cell 0
  have K2 := Lib.hid k2
  have p2 := k2.cell 0
  have K3 := Lib.hid k3
  have p3 := k3.cell 0
  have K4 := Lib.hid k4
  have p4 := k4.cell 0
  have K5 := Lib.hid k5
  have p5 := k5.cell 0
  simp only [List.getElem?_cons_zero] at p0 p1 p2 p3 p4 p5
  have H1 := Lib.hid (show Mch w6 q c t r from Blk.below H.out b6 hlt)
  have yq : q < w6.heap.size := by omega
  have B6 := Lib.hid b6
  clear k0 k1 k2 k3 k4 k5 hw6 b6
  go_wp2_with fail
  refine (cDo_any q c t r 5 at0 8 0 0 none 0 0 _ _ _ H1.out).mono ?_
  rintro e w2 ⟨rfl, m2, kp⟩
  have z2 := kp.size
  go_wp2
  go_end0
  refine ⟨rfl, _, m2, ⟨w.heap.size, w.heap.size + 1, w.heap.size + 1 + 1 + 1 + 1 + 1, w.heap.size + 1 + 1, w.heap.size + 1 + 1 + 1, w.heap.size + 1 + 1 + 1 + 1, rfl, ⟨?_, ?_, ?_, ?_, ?_, ?_⟩, ?_, ?_, ?_, ?_, ?_, ?_⟩, (Below.keeps B6.out).trans kp⟩
  ·exact K0.out.keep kp (by show ¬ w.heap.size = q; omega)
  ·exact K1.out.keep kp (by show ¬ w.heap.size + 1 = q; omega)
  ·exact K5.out.keep kp (by show ¬ w.heap.size + 1 + 1 + 1 + 1 + 1 = q; omega)
  ·exact K2.out.keep kp (by show ¬ w.heap.size + 1 + 1 = q; omega)
  ·exact K3.out.keep kp (by show ¬ w.heap.size + 1 + 1 + 1 = q; omega)
  ·exact K4.out.keep kp (by show ¬ w.heap.size + 1 + 1 + 1 + 1 = q; omega)
  all_goals exact ⟨by omega, by omega⟩
set_option maxHeartbeats 4000000 in
theorem cOutK_any (q : Nat) (at0 : Int) (k n : Nat) (hv : Value) (g : Nat) (gc : Array Value) (have0 l : List Int) (v : Int) (d : Bool) (s0 : Option Addr) (sl sc : Nat) (cb ab kb nb hb fb : Nat) (w : World)
  (h0 : Blk w cb [ptr q]) (h1 : Blk w ab [.int .i64 at0]) (h2 : Blk w kb [.int .i64 k]) (h3 : Blk w nb [.int .i64 n]) (h4 : Blk w hb [hv]) (h5 : Blk w fb [.func (.func g) #[] gc]) (hown : OwB 5 0 w hv have0) (hr : RdB w (.slice s0 sl sc) l) (hlen : have0.length + l.length ≤ 70368744177664)
  (ha : -2305843009213693952 ≤ at0) (ha' : at0 ≤ 2305843009213693952) (hk : k ≤ 8) (hn : n ≤ 131072) (hkn : k ≤ n) (hq : ∀ i, hv.ownBlock = some i → i ≠ cb ∧ i ≠ ab ∧ i ≠ kb ∧ i ≠ nb ∧ i ≠ hb ∧ i ≠ fb) (Q : World → Prop) (M : Nat → Prop) (hM : ∀ i, M i → i < w.heap.size) (hMq : ¬ M cb ∧ ¬ M ab ∧ ¬ M kb ∧ ¬ M nb ∧ ¬ M hb ∧ ¬ M fb)
  (hF : ∀ w1 ra rn rc, OwB 5 0 w1 (.slice ra rn rc) (have0 ++ l) → ((Value.slice ra rn rc).ownBlock = hv.ownBlock ∨ ∃ b, (Value.slice ra rn rc).ownBlock = some b ∧ w.heap.size ≤ b ∧ b < w1.heap.size) → Keep (fun i => hv.ownBlock = some i) w w1 → Calls Tryz.prog 129 #[.pointer (some ⟨q, 0, none⟩), .int .i64 (at0 + k), .int .i64 ((n : Int) - k), .slice ra rn rc, .func (.func g) #[] gc] w1 fun e w' => e = .returned (.tuple #[]) ∧ Q w' ∧ Keep M w1 w') :
  Calls Tryz.prog 156 #[.agg #[.int .u64 v, .bool d, .slice s0 sl sc], ptr cb, ptr ab, ptr kb, ptr nb, ptr hb, ptr fb] w fun e w' => e = .returned (.tuple #[]) ∧ Q w' := by
 have HF := Lib.hid hF
 have HO := Lib.hid hown
 have HR := Lib.hid hr
 have l0 := h0.lt
 have l1 := h1.lt
 have l2 := h2.lt
 have l3 := h3.lt
 have l4 := h4.lt
 have l5 := h5.lt
 have c0 := h0.cell 0
 have c1 := h1.cell 0
 have c2 := h2.cell 0
 have c3 := h3.cell 0
 have c4 := h4.cell 0
 have c5 := h5.cell 0
 have W1 : IntKind.i64.wrap (at0 + k) = at0 + k := IntWalk.i64_in _ ⟨by omega, by omega⟩
 have W2 : IntKind.i64.wrap ((n : Int) - k) = (n : Int) - k := IntWalk.i64_in _ ⟨by omega, by omega⟩
 simp only [List.getElem?_cons_zero, ptr] at c0 c1 c2 c3 c4 c5
 unfold ptr
 clear hF h0 h1 h2 h3 h4 h5 hown hr
 go_enter Tryz.func156, Tryz.ntmps156
 go_upto_region 1 with fail
 refine wp_region_held_drew (S := (fun w' => w'.cell? ⟨cb, 0, none⟩ = some (.pointer (some ⟨q, 0, none⟩)) ∧ w'.cell? ⟨ab, 0, none⟩ = some (.int .i64 at0) ∧ w'.cell? ⟨kb, 0, none⟩ = some (.int .i64 k) ∧ w'.cell? ⟨nb, 0, none⟩ = some (.int .i64 n) ∧ w'.cell? ⟨hb, 0, none⟩ = some (hv) ∧ w'.cell? ⟨fb, 0, none⟩ = some (.func (.func g) #[] gc) ∧ w'.cell? ⟨w.heap.size, 2, none⟩ = some (.slice s0 sl sc))) (by kernel_rfl) ?_ (fun hHeld => ?_)
 ·try dsimp only
  go_keep
 refine wpT 0 rfl ?_
 try simp only [Act.put, tS]
 refine wpT 1 rfl ?_
 try simp only [Act.put, tS]
 refine wpT 2 rfl ?_
 try simp only [Act.put, tS]
 refine wpT 3 rfl ?_
 try simp only [Act.put, tS]
 refine wpT 4 rfl ?_
 try simp only [Act.put, tS]
 refine wpT 5 rfl ?_
 try simp only [Act.put, tS]
 refine wpT 6 rfl ?_
 try simp only [Act.put, tS]
 refine wpT 7 rfl ?_
 try simp only [Act.put, tS]
 refine wpT 8 rfl ?_
 try simp only [Act.put, tS]
 refine wpT 9 rfl ?_
 try simp only [Act.put, tS]
 refine wpT 11 rfl ?_
 try simp only [Act.put, tS]
 refine wpR 10 rfl fun K hK => ?_
 refine step_app (by rfl) _ _ (by rfl) 0 hv (.slice s0 sl sc) have0 l (by rfl) (HO.out.below (by go_grown)) (by rfl) (HR.out.below (by go_grown)) (by omega) (by omega) ?_
 intro rv' w1 p1
 obtain ⟨ra, rn, rc, rfl⟩ := p1.1.isSliceC
 have e_cb := p1.2.1.cell_far ⟨cb, 0, none⟩ (by simp; omega) (fun e => (hq _ e.symm).1 rfl)
 have e_ab := p1.2.1.cell_far ⟨ab, 0, none⟩ (by simp; omega) (fun e => (hq _ e.symm).2.1 rfl)
 have e_nb := p1.2.1.cell_far ⟨nb, 0, none⟩ (by simp; omega) (fun e => (hq _ e.symm).2.2.2.1 rfl)
 have e_hb := p1.2.1.cell_far ⟨hb, 0, none⟩ (by simp; omega) (fun e => (hq _ e.symm).2.2.2.2.1 rfl)
 have e_fb := p1.2.1.cell_far ⟨fb, 0, none⟩ (by simp; omega) (fun e => (hq _ e.symm).2.2.2.2.2 rfl)
 have e_kb := p1.2.1.cell_far ⟨kb, 0, none⟩ (by simp; omega) (fun e => (hq _ e.symm).2.2.1 rfl)
 have e_x := p1.2.1.cell_far ⟨w.heap.size, 2, none⟩ (by simp) (fun e => by have := World.ownsRow.lt HO.out _ e.symm; simp at this)
 refine hK.out _ _ ?_ (fun hHeld => ?_)
 ·try dsimp only
  go_keep
 clear hK K
 try simp only [Act.put, tS]
 have z1 := p1.2.1.size
 simp at z1
 have HP := Lib.hid p1
 have HQ := Lib.hid hq
 clear p1 hq
 refine wpR 12 rfl fun K hK => ?_
 go_simp
 go_at_call 129
 refine (HF.out w1 ra rn rc HP.out.1 ?_ ?_).mono ?_
 ·rcases HP.out.2.2 with e | e
  ·exact .inl e
  ·refine .inr ⟨_, e, by simp, ?_⟩
   exact (World.ownsRow.lt HP.out.1 _ e).2
 ·exact (((Keep.refl _ w).alloc _).drew).trans (Keep.mono (keep_grown HP.out.2.1) (fun i _ h => h))
 ·rintro e w' ⟨rfl, hQ, kM⟩
  obtain ⟨n0, n1, n2, n3, n4, n5⟩ := hMq
  obtain ⟨u0, u1, u2, u3, u4, u5, u6⟩ := hHeld
  have g0 := (kM.cell (b := cb) 0 (by omega) n0).trans u0
  have g1 := (kM.cell (b := ab) 0 (by omega) n1).trans u1
  have g2 := (kM.cell (b := kb) 0 (by omega) n2).trans u2
  have g3 := (kM.cell (b := nb) 0 (by omega) n3).trans u3
  have g4 := (kM.cell (b := hb) 0 (by omega) n4).trans u4
  have g5 := (kM.cell (b := fb) 0 (by omega) n5).trans u5
  have g6 := (kM.cell (b := w.heap.size) 2 (by omega) (fun h => by have := hM _ h; omega)).trans u6
  refine hK.out _ _ ⟨g0, g1, g2, g3, g4, g5, g6⟩ (fun hHeld => ?_)
  clear hK K
  try simp only [Act.put, tS]
  refine wpAnyH_done (by kernel_rfl) ?_ _
  clear hHeld
  go_wp2
  go_end0
  exact ⟨rfl, hQ⟩
end Go.Proofs.YtggjhleomocojaaGreat
