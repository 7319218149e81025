/- cont.Cont's Load and Store with a bound method to go on with. Conditions: as each says. -/
import Derived.Test.YtknahaaefmlcpaaGreatPd
namespace Go.Proofs.YtknahaaefmlcpaaGreat
set_option maxRecDepth 100000
open Go.RowKit
set_option linter.unusedVariables false
set_option linter.unusedSimpArgs false
set_option maxHeartbeats 1000000 in
theorem cLoad_bd (q : Nat) (c : Acc) (t : Value) (r : List Value) (a n : Int) (g : Nat) (gf gc : Array Value) (w : World) (h : Mch w q c t r) :
  Calls Tryz.prog 62 #[.pointer (some ⟨q, 0, none⟩), .int .i64 a, .int .i64 n, .func (.func g) gf gc] w fun e w' => e = .returned (.tuple #[]) ∧
   ∃ t', Mch w' q ⟨1, a, n, 0, 0, .slice none 0 0⟩ t' r ∧ Clo w' (fun k => w.heap.size ≤ k ∧ k < w'.heap.size) t' 117 [.func (.func g) gf gc] ∧ Keep (· = q) w w' := by
 have hlt := h.lt
 have H := Lib.hid h
 clear h
 go_enter Tryz.func62, Tryz.ntmps62
 go_wp2_with fail
 refine (cDo_any q c t r 1 a n 0 0 none 0 0 _ _ _ (Blk.alloc H.out _)).mono ?_
 rintro e w1 ⟨rfl, m1, k1⟩
 have z1 := k1.size
 simp at z1
 go_wp2
 go_end0
 refine ⟨rfl, _, m1, Clo.mk1 ((Blk.made w _ _).keep k1 (by show ¬ w.heap.size = q; omega)) ⟨Nat.le_refl _, by omega⟩, ((Keep.refl _ w).alloc _).trans k1⟩
set_option maxHeartbeats 1000000 in
theorem cStore_bd (q : Nat) (c : Acc) (t : Value) (r : List Value) (a n v : Int) (g : Nat) (gf gc : Array Value) (w : World) (h : Mch w q c t r) :
  Calls Tryz.prog 155 #[.pointer (some ⟨q, 0, none⟩), .int .i64 a, .int .i64 n, .int .u64 v, .func (.func g) gf gc] w fun e w' => e = .returned (.tuple #[]) ∧
   ∃ t', Mch w' q ⟨2, a, n, v, 0, .slice none 0 0⟩ t' r ∧ Clo w' (fun k => w.heap.size ≤ k ∧ k < w'.heap.size) t' 174 [.func (.func g) gf gc] ∧ Keep (· = q) w w' := by
 have hlt := h.lt
 have H := Lib.hid h
 clear h
 go_enter Tryz.func155, Tryz.ntmps155
 go_wp2_with fail
 refine (cDo_any q c t r 2 a n v 0 none 0 0 _ _ _ (Blk.alloc H.out _)).mono ?_
 rintro e w1 ⟨rfl, m1, k1⟩
 have z1 := k1.size
 simp at z1
 go_wp2
 go_end0
 refine ⟨rfl, _, m1, Clo.mk1 ((Blk.made w _ _).keep k1 (by show ¬ w.heap.size = q; omega)) ⟨Nat.le_refl _, by omega⟩, ((Keep.refl _ w).alloc _).trans k1⟩
set_option maxHeartbeats 1000000 in
theorem loadK_bd (tb g : Nat) (gx : Value) (v : Int) (d : Bool) (s0 : Option Addr) (sl sc : Nat) (w : World) (h : Blk w tb [.func (.func g) #[gx] #[]]) (hen : En g) (Q : World → Prop)
  (hF : ∀ w1, Below w.heap.size w w1 → Calls Tryz.prog g #[gx, .int .u64 v] w1 fun e w' => e = .returned (.tuple #[]) ∧ Q w') :
  Calls Tryz.prog 117 #[.agg #[.int .u64 v, .bool d, .slice s0 sl sc], ptr tb] w fun e w' => e = .returned (.tuple #[]) ∧ Q w' := by
 have HF := Lib.hid hF
 have hlt := h.lt
 have c0 := h.cell 0
 simp only [List.getElem?_cons_zero] at c0
 unfold ptr
 unfold En at hen
 clear hF h
 go_enter Tryz.func117, Tryz.ntmps117
 go_wp2_with fail
 refine (HF.out _ (by go_grown)).mono ?_
 rintro e w' ⟨rfl, hQ⟩
 go_wp2
 go_end0
 exact ⟨rfl, hQ⟩
set_option maxHeartbeats 1000000 in
theorem storeK_bd (tb g : Nat) (gx : Value) (v : Int) (d : Bool) (s0 : Option Addr) (sl sc : Nat) (w : World) (h : Blk w tb [.func (.func g) #[gx] #[]]) (hen : En g) (Q : World → Prop)
  (hF : ∀ w1, Below w.heap.size w w1 → Calls Tryz.prog g #[gx] w1 fun e w' => e = .returned (.tuple #[]) ∧ Q w') :
  Calls Tryz.prog 174 #[.agg #[.int .u64 v, .bool d, .slice s0 sl sc], ptr tb] w fun e w' => e = .returned (.tuple #[]) ∧ Q w' := by
 have HF := Lib.hid hF
 have hlt := h.lt
 have c0 := h.cell 0
 simp only [List.getElem?_cons_zero] at c0
 unfold ptr
 unfold En at hen
 clear hF h
 go_enter Tryz.func174, Tryz.ntmps174
 go_wp2_with fail
 refine (HF.out _ (by go_grown)).mono ?_
 rintro e w' ⟨rfl, hQ⟩
 go_wp2
 go_end0
 exact ⟨rfl, hQ⟩
theorem takeLoadB (O : Nat → Prop) (q : Nat) (c : Acc) (t : Value) (r : List Value) (g : Nat) (gx : Value) (v : Int) (d : Bool) (s0 : Option Addr) (sl sc : Nat) (w : World) (h : Mch w q c t r) (ht : Clo w O t 117 [.func (.func g) #[gx] #[]]) (hq : ¬ O q) (hen : En g) (Q : World → Prop)
  (hF : ∀ w1, Mch w1 q accZ .nilFunc r → Keep (· = q) w w1 → Calls Tryz.prog g #[gx, .int .u64 v] w1 fun e w' => e = .returned (.tuple #[]) ∧ Q w') :
  Calls Tryz.prog 71 #[.pointer (some ⟨q, 0, none⟩), .agg #[.int .u64 v, .bool d, .slice s0 sl sc]] w fun e w' => e = .returned (.tuple #[]) ∧ Q w' := by
 obtain ⟨tb, rfl, hb, ho⟩ := ht.c1
 have nq : ¬ tb = q := fun e => hq (e ▸ ho)
 refine cTake_any q _ _ _ r v d s0 sl sc w h (fun w1 => enLoad _ w1) Q ?_
 intro w1 m1 k1
 exact loadK_bd tb g gx v d s0 sl sc w1 (hb.keep k1 nq) hen Q fun w2 b2 => hF w2 (Blk.below m1 b2 m1.lt) (k1.trans (Below.keeps b2))
theorem takeStoreB (O : Nat → Prop) (q : Nat) (c : Acc) (t : Value) (r : List Value) (g : Nat) (gx : Value) (v : Int) (d : Bool) (s0 : Option Addr) (sl sc : Nat) (w : World) (h : Mch w q c t r) (ht : Clo w O t 174 [.func (.func g) #[gx] #[]]) (hq : ¬ O q) (hen : En g) (Q : World → Prop)
  (hF : ∀ w1, Mch w1 q accZ .nilFunc r → Keep (· = q) w w1 → Calls Tryz.prog g #[gx] w1 fun e w' => e = .returned (.tuple #[]) ∧ Q w') :
  Calls Tryz.prog 71 #[.pointer (some ⟨q, 0, none⟩), .agg #[.int .u64 v, .bool d, .slice s0 sl sc]] w fun e w' => e = .returned (.tuple #[]) ∧ Q w' := by
 obtain ⟨tb, rfl, hb, ho⟩ := ht.c1
 have nq : ¬ tb = q := fun e => hq (e ▸ ho)
 refine cTake_any q _ _ _ r v d s0 sl sc w h (fun w1 => enStore _ w1) Q ?_
 intro w1 m1 k1
 exact storeK_bd tb g gx v d s0 sl sc w1 (hb.keep k1 nq) hen Q fun w2 b2 => hF w2 (Blk.below m1 b2 m1.lt) (k1.trans (Below.keeps b2))
end Go.Proofs.YtknahaaefmlcpaaGreat
