/- Closures in memory; contracts of cont.Cont's Load, Store, Cas, and of what they go on with. Conditions: as each says. -/
import Derived.Test.YtggjhleomocojaaGreatKi
import Derived.Shelf.Abstract
namespace Go.Proofs.YtggjhleomocojaaGreat
set_option maxRecDepth 100000
open Go.RowKit
set_option linter.unusedVariables false
set_option linter.unusedSimpArgs false
def Caps (w : World) (O : Nat → Prop) : List Nat → List Value → Prop
 | [], [] => True
 | b :: bs, x :: xs => Blk w b [x] ∧ O b ∧ Caps w O bs xs
 | [], _ :: _ => False
 | _ :: _, [] => False
def Clo (w : World) (O : Nat → Prop) (v : Value) (f : Nat) (xs : List Value) : Prop := ∃ bs : List Nat, v = .func (.func f) #[] (bs.map ptr).toArray ∧ Caps w O bs xs
theorem Caps.keep {w w' : World} {O M : Nat → Prop} (k : Keep M w w') (hd : ∀ i, O i → ¬ M i) : ∀ (bs : List Nat) (xs : List Value), Caps w O bs xs → Caps w' O bs xs
 | [], [], _ => trivial
 | b :: bs, x :: xs, h => ⟨h.1.keep k (hd _ h.2.1), h.2.1, Caps.keep k hd bs xs h.2.2⟩
 | [], _ :: _, h => h
 | _ :: _, [], h => h
variable {w : World}
theorem Caps.mono {O O' : Nat → Prop} (hd : ∀ i, O i → O' i) : ∀ (bs : List Nat) (xs : List Value), Caps w O bs xs → Caps w O' bs xs
 | [], [], _ => trivial
 | b :: bs, x :: xs, h => ⟨h.1, hd _ h.2.1, Caps.mono hd bs xs h.2.2⟩
 | [], _ :: _, h => h
 | _ :: _, [], h => h
variable {v : Value} {f : Nat}
theorem Clo.keep {w w' : World} {O M : Nat → Prop} {xs : List Value} (h : Clo w O v f xs) (k : Keep M w w') (hd : ∀ i, O i → ¬ M i) : Clo w' O v f xs := by
 obtain ⟨bs, e, h⟩ := h
 exact ⟨bs, e, Caps.keep k hd bs xs h⟩
theorem Clo.mono {O O' : Nat → Prop} {xs : List Value} (h : Clo w O v f xs) (hd : ∀ i, O i → O' i) : Clo w O' v f xs := by
 obtain ⟨bs, e, h⟩ := h
 exact ⟨bs, e, Caps.mono hd bs xs h⟩
variable {O : Nat → Prop}
theorem Clo.c1 {x : Value} (h : Clo w O v f [x]) : ∃ b, v = .func (.func f) #[] #[ptr b] ∧ Blk w b [x] ∧ O b := by
 obtain ⟨bs, e, h⟩ := h
 match bs, h with
 | [b], h => exact ⟨b, e, h.1, h.2.1⟩
theorem Clo.c2 {x y : Value} (h : Clo w O v f [x, y]) : ∃ b c, v = .func (.func f) #[] #[ptr b, ptr c] ∧ (Blk w b [x] ∧ O b) ∧ Blk w c [y] ∧ O c := by
 obtain ⟨bs, e, h⟩ := h
 match bs, h with
 | [b, c], h => exact ⟨b, c, e, ⟨h.1, h.2.1⟩, h.2.2.1, h.2.2.2.1⟩
theorem Clo.c3 {x y z : Value} (h : Clo w O v f [x, y, z]) : ∃ b c d, v = .func (.func f) #[] #[ptr b, ptr c, ptr d] ∧ (Blk w b [x] ∧ O b) ∧ (Blk w c [y] ∧ O c) ∧ Blk w d [z] ∧ O d := by
 obtain ⟨bs, e, h⟩ := h
 match bs, h with
 | [b, c, d], h => exact ⟨b, c, d, e, ⟨h.1, h.2.1⟩, ⟨h.2.2.1, h.2.2.2.1⟩, h.2.2.2.2.1, h.2.2.2.2.2.1⟩
theorem Clo.mk1 {f b : Nat} {x : Value} (h : Blk w b [x]) (o : O b) : Clo w O (.func (.func f) #[] #[ptr b]) f [x] := ⟨[b], rfl, h, o, trivial⟩
theorem Clo.mk2 {f b c : Nat} {x y : Value} (h : Blk w b [x]) (o : O b) (h2 : Blk w c [y]) (o2 : O c) : Clo w O (.func (.func f) #[] #[ptr b, ptr c]) f [x, y] := ⟨[b, c], rfl, h, o, h2, o2, trivial⟩
theorem Clo.mk3 {f b c d : Nat} {x y z : Value} (h : Blk w b [x]) (o : O b) (h2 : Blk w c [y]) (o2 : O c) (h3 : Blk w d [z]) (o3 : O d) : Clo w O (.func (.func f) #[] #[ptr b, ptr c, ptr d]) f [x, y, z] := ⟨[b, c, d], rfl, h, o, h2, o2, h3, o3, trivial⟩
def En (g : Nat) : Prop := ∀ (args : Array Value) (w : World), (callFunc g args).run Tryz.prog w = .ok (.enter g args) w
theorem enLoad : En 73 := enters_of Tryz.func73 (by kernel_rfl) rfl
theorem enStore : En 107 := enters_of Tryz.func107 (by kernel_rfl) rfl
theorem enCas : En 157 := enters_of Tryz.func157 (by kernel_rfl) rfl
set_option maxHeartbeats 1000000 in
theorem cLoad_any (q : Nat) (c : Acc) (t : Value) (r : List Value) (a n : Int) (g : Nat) (gc : Array Value) (w : World) (h : Mch w q c t r) :
  Calls Tryz.prog 36 #[.pointer (some ⟨q, 0, none⟩), .int .i64 a, .int .i64 n, .func (.func g) #[] gc] w fun e w' => e = .returned (.tuple #[]) ∧
   ∃ t', Mch w' q ⟨1, a, n, 0, 0, .slice none 0 0⟩ t' r ∧ Clo w' (fun k => w.heap.size ≤ k ∧ k < w'.heap.size) t' 73 [.func (.func g) #[] gc] ∧ Keep (· = q) w w' := by
 have hlt := h.lt
 have H := Lib.hid h
 clear h
 go_enter Tryz.func36, Tryz.ntmps36
 go_wp2_with fail
 refine (cDo_any q c t r 1 a n 0 0 none 0 0 _ _ _ (Blk.alloc H.out _)).mono ?_
 rintro e w1 ⟨rfl, m1, k1⟩
 have z1 := k1.size
 simp at z1
 go_wp2
 go_end0
 refine ⟨rfl, _, m1, Clo.mk1 ((Blk.made w _ _).keep k1 (by show ¬ w.heap.size = q; omega)) ⟨Nat.le_refl _, by omega⟩, ((Keep.refl _ w).alloc _).trans k1⟩
set_option maxHeartbeats 1000000 in
theorem cStore_any (q : Nat) (c : Acc) (t : Value) (r : List Value) (a n v : Int) (g : Nat) (gc : Array Value) (w : World) (h : Mch w q c t r) :
  Calls Tryz.prog 74 #[.pointer (some ⟨q, 0, none⟩), .int .i64 a, .int .i64 n, .int .u64 v, .func (.func g) #[] gc] w fun e w' => e = .returned (.tuple #[]) ∧
   ∃ t', Mch w' q ⟨2, a, n, v, 0, .slice none 0 0⟩ t' r ∧ Clo w' (fun k => w.heap.size ≤ k ∧ k < w'.heap.size) t' 107 [.func (.func g) #[] gc] ∧ Keep (· = q) w w' := by
 have hlt := h.lt
 have H := Lib.hid h
 clear h
 go_enter Tryz.func74, Tryz.ntmps74
 go_wp2_with fail
 refine (cDo_any q c t r 2 a n v 0 none 0 0 _ _ _ (Blk.alloc H.out _)).mono ?_
 rintro e w1 ⟨rfl, m1, k1⟩
 have z1 := k1.size
 simp at z1
 go_wp2
 go_end0
 refine ⟨rfl, _, m1, Clo.mk1 ((Blk.made w _ _).keep k1 (by show ¬ w.heap.size = q; omega)) ⟨Nat.le_refl _, by omega⟩, ((Keep.refl _ w).alloc _).trans k1⟩
set_option maxHeartbeats 1000000 in
theorem cCas_any (q : Nat) (c : Acc) (t : Value) (r : List Value) (a n v x : Int) (g : Nat) (gc : Array Value) (w : World) (h : Mch w q c t r) :
  Calls Tryz.prog 133 #[.pointer (some ⟨q, 0, none⟩), .int .i64 a, .int .i64 n, .int .u64 v, .int .u64 x, .func (.func g) #[] gc] w fun e w' => e = .returned (.tuple #[]) ∧
   ∃ t', Mch w' q ⟨4, a, n, v, x, .slice none 0 0⟩ t' r ∧ Clo w' (fun k => w.heap.size ≤ k ∧ k < w'.heap.size) t' 157 [.func (.func g) #[] gc] ∧ Keep (· = q) w w' := by
 have hlt := h.lt
 have H := Lib.hid h
 clear h
 go_enter Tryz.func133, Tryz.ntmps133
 go_wp2_with fail
 refine (cDo_any q c t r 4 a n v x none 0 0 _ _ _ (Blk.alloc H.out _)).mono ?_
 rintro e w1 ⟨rfl, m1, k1⟩
 have z1 := k1.size
 simp at z1
 go_wp2
 go_end0
 refine ⟨rfl, _, m1, Clo.mk1 ((Blk.made w _ _).keep k1 (by show ¬ w.heap.size = q; omega)) ⟨Nat.le_refl _, by omega⟩, ((Keep.refl _ w).alloc _).trans k1⟩
set_option maxHeartbeats 1000000 in
theorem loadK_any (tb g : Nat) (gc : Array Value) (v : Int) (d : Bool) (s0 : Option Addr) (sl sc : Nat) (w : World) (h : Blk w tb [.func (.func g) #[] gc]) (hen : En g) (Q : World → Prop)
  (hF : ∀ w1, Below w.heap.size w w1 → Calls Tryz.prog g (#[.int .u64 v] ++ gc) w1 fun e w' => e = .returned (.tuple #[]) ∧ Q w') :
  Calls Tryz.prog 73 #[.agg #[.int .u64 v, .bool d, .slice s0 sl sc], ptr tb] w fun e w' => e = .returned (.tuple #[]) ∧ Q w' := by
 have HF := Lib.hid hF
 have hlt := h.lt
 have c0 := h.cell 0
 simp only [List.getElem?_cons_zero] at c0
 unfold ptr
 unfold En at hen
 clear hF h
 go_enter Tryz.func73, Tryz.ntmps73
 go_wp2_with fail
 refine (HF.out _ (by go_grown)).mono ?_
 rintro e w' ⟨rfl, hQ⟩
 go_wp2
 go_end0
 exact ⟨rfl, hQ⟩
set_option maxHeartbeats 1000000 in
theorem storeK_any (tb g : Nat) (gc : Array Value) (v : Int) (d : Bool) (s0 : Option Addr) (sl sc : Nat) (w : World) (h : Blk w tb [.func (.func g) #[] gc]) (hen : En g) (Q : World → Prop)
  (hF : ∀ w1, Below w.heap.size w w1 → Calls Tryz.prog g gc w1 fun e w' => e = .returned (.tuple #[]) ∧ Q w') :
  Calls Tryz.prog 107 #[.agg #[.int .u64 v, .bool d, .slice s0 sl sc], ptr tb] w fun e w' => e = .returned (.tuple #[]) ∧ Q w' := by
 have HF := Lib.hid hF
 have hlt := h.lt
 have c0 := h.cell 0
 simp only [List.getElem?_cons_zero] at c0
 unfold ptr
 unfold En at hen
 clear hF h
 go_enter Tryz.func107, Tryz.ntmps107
 go_wp2_with fail
 refine (HF.out _ (by go_grown)).mono ?_
 rintro e w' ⟨rfl, hQ⟩
 go_wp2
 go_end0
 exact ⟨rfl, hQ⟩
set_option maxHeartbeats 1000000 in
theorem casK_any (tb g : Nat) (gc : Array Value) (v : Int) (d : Bool) (s0 : Option Addr) (sl sc : Nat) (w : World) (h : Blk w tb [.func (.func g) #[] gc]) (hen : En g) (Q : World → Prop)
  (hF : ∀ w1, Below w.heap.size w w1 → Calls Tryz.prog g (#[.bool d] ++ gc) w1 fun e w' => e = .returned (.tuple #[]) ∧ Q w') :
  Calls Tryz.prog 157 #[.agg #[.int .u64 v, .bool d, .slice s0 sl sc], ptr tb] w fun e w' => e = .returned (.tuple #[]) ∧ Q w' := by
 have HF := Lib.hid hF
 have hlt := h.lt
 have c0 := h.cell 0
 simp only [List.getElem?_cons_zero] at c0
 unfold ptr
 unfold En at hen
 clear hF h
 go_enter Tryz.func157, Tryz.ntmps157
 go_wp2_with fail
 refine (HF.out _ (by go_grown)).mono ?_
 rintro e w' ⟨rfl, hQ⟩
 go_wp2
 go_end0
 exact ⟨rfl, hQ⟩
theorem takeLoad (O : Nat → Prop) (q : Nat) (c : Acc) (t : Value) (r : List Value) (g : Nat) (gc : Array Value) (v : Int) (d : Bool) (s0 : Option Addr) (sl sc : Nat) (w : World) (h : Mch w q c t r) (ht : Clo w O t 73 [.func (.func g) #[] gc]) (hq : ¬ O q) (hen : En g) (Q : World → Prop)
  (hF : ∀ w1, Mch w1 q accZ .nilFunc r → Keep (· = q) w w1 → Calls Tryz.prog g (#[.int .u64 v] ++ gc) w1 fun e w' => e = .returned (.tuple #[]) ∧ Q w') :
  Calls Tryz.prog 192 #[.pointer (some ⟨q, 0, none⟩), .agg #[.int .u64 v, .bool d, .slice s0 sl sc]] w fun e w' => e = .returned (.tuple #[]) ∧ Q w' := by
 obtain ⟨tb, rfl, hb, ho⟩ := ht.c1
 have nq : ¬ tb = q := fun e => hq (e ▸ ho)
 refine cTake_any q _ _ _ r v d s0 sl sc w h (fun w1 => enLoad _ w1) Q ?_
 intro w1 m1 k1
 exact loadK_any tb g gc v d s0 sl sc w1 (hb.keep k1 nq) hen Q fun w2 b2 => hF w2 (Blk.below m1 b2 m1.lt) (k1.trans (Below.keeps b2))
theorem takeStore (O : Nat → Prop) (q : Nat) (c : Acc) (t : Value) (r : List Value) (g : Nat) (gc : Array Value) (v : Int) (d : Bool) (s0 : Option Addr) (sl sc : Nat) (w : World) (h : Mch w q c t r) (ht : Clo w O t 107 [.func (.func g) #[] gc]) (hq : ¬ O q) (hen : En g) (Q : World → Prop)
  (hF : ∀ w1, Mch w1 q accZ .nilFunc r → Keep (· = q) w w1 → Calls Tryz.prog g gc w1 fun e w' => e = .returned (.tuple #[]) ∧ Q w') :
  Calls Tryz.prog 192 #[.pointer (some ⟨q, 0, none⟩), .agg #[.int .u64 v, .bool d, .slice s0 sl sc]] w fun e w' => e = .returned (.tuple #[]) ∧ Q w' := by
 obtain ⟨tb, rfl, hb, ho⟩ := ht.c1
 have nq : ¬ tb = q := fun e => hq (e ▸ ho)
 refine cTake_any q _ _ _ r v d s0 sl sc w h (fun w1 => enStore _ w1) Q ?_
 intro w1 m1 k1
 exact storeK_any tb g gc v d s0 sl sc w1 (hb.keep k1 nq) hen Q fun w2 b2 => hF w2 (Blk.below m1 b2 m1.lt) (k1.trans (Below.keeps b2))
theorem takeCas (O : Nat → Prop) (q : Nat) (c : Acc) (t : Value) (r : List Value) (g : Nat) (gc : Array Value) (v : Int) (d : Bool) (s0 : Option Addr) (sl sc : Nat) (w : World) (h : Mch w q c t r) (ht : Clo w O t 157 [.func (.func g) #[] gc]) (hq : ¬ O q) (hen : En g) (Q : World → Prop)
  (hF : ∀ w1, Mch w1 q accZ .nilFunc r → Keep (· = q) w w1 → Calls Tryz.prog g (#[.bool d] ++ gc) w1 fun e w' => e = .returned (.tuple #[]) ∧ Q w') :
  Calls Tryz.prog 192 #[.pointer (some ⟨q, 0, none⟩), .agg #[.int .u64 v, .bool d, .slice s0 sl sc]] w fun e w' => e = .returned (.tuple #[]) ∧ Q w' := by
 obtain ⟨tb, rfl, hb, ho⟩ := ht.c1
 have nq : ¬ tb = q := fun e => hq (e ▸ ho)
 refine cTake_any q _ _ _ r v d s0 sl sc w h (fun w1 => enCas _ w1) Q ?_
 intro w1 m1 k1
 exact casK_any tb g gc v d s0 sl sc w1 (hb.keep k1 nq) hen Q fun w2 b2 => hF w2 (Blk.below m1 b2 m1.lt) (k1.trans (Below.keeps b2))
end Go.Proofs.YtggjhleomocojaaGreat
