/- A put in memory; contracts of ringput's end, place, tail, claim, look. Conditions: as each says. A put in memory: what its closures do. -/
import Derived.Test.YtggjhleomocojaaGreatPd
import Derived.Test.YtggjhleomocojaaGreatKe
import Derived.Deep.RegionHeld3
import Derived.Deep.CutRange
import Derived.Test.YtggjhleomocojaaGreatPq
section
namespace Go.Proofs.YtggjhleomocojaaGreat
set_option maxRecDepth 100000
open Go.RowKit
set_option linter.unusedVariables false
set_option linter.unusedSimpArgs false
def PutM.rest (m : PutM) (bv : Value) : List Value := [.int .i64 m.c.b, .int .i64 m.c.s, .int .i32 m.c.typ, bv, .int .i64 m.c.nd, .int .u64 m.hd, .int .i64 m.pos, .bool m.cl, .int .i64 m.e]
variable {q : Nat} {m : PutM}
theorem put_cells {w : World} {c : Acc} {t bv : Value} (h : Mch w q c t (m.rest bv)) :
  w.cell? ⟨q, 7, none⟩ = some (.int .i64 m.c.b) ∧ w.cell? ⟨q, 8, none⟩ = some (.int .i64 m.c.s) ∧ w.cell? ⟨q, 9, none⟩ = some (.int .i32 m.c.typ) ∧ w.cell? ⟨q, 10, none⟩ = some bv ∧ w.cell? ⟨q, 11, none⟩ = some (.int .i64 m.c.nd) ∧ w.cell? ⟨q, 12, none⟩ = some (.int .u64 m.hd) ∧ w.cell? ⟨q, 13, none⟩ = some (.int .i64 m.pos) ∧ w.cell? ⟨q, 14, none⟩ = some (.bool m.cl) ∧ w.cell? ⟨q, 15, none⟩ = some (.int .i64 m.e) :=
 ⟨Blk.cell h 7, Blk.cell h 8, Blk.cell h 9, Blk.cell h 10, Blk.cell h 11, Blk.cell h 12, Blk.cell h 13, Blk.cell h 14, Blk.cell h 15⟩
def AA.acc (c : AA) : Acc := ⟨c.k, c.a, c.n, c.v, c.x, .slice none 0 0⟩
theorem pbox3 (w : World) (x0 x1 x2 : Value) (t0 t1 t2 : TypeId) : ∃ w3, w3 = ((w.alloc (.cells #[x0] t0)).alloc (.cells #[x1] t1)).alloc (.cells #[x2] t2) ∧ Blk w3 w.heap.size [x0] ∧ Blk w3 (w.heap.size + 1) [x1] ∧ Blk w3 (w.heap.size + 1 + 1) [x2] ∧ w3.heap.size = w.heap.size + 1 + 1 + 1 ∧ Below w.heap.size w w3 := by
 refine ⟨_, rfl, ?_, ?_, ?_, by simp, by go_grown⟩
 ·exact ((Blk.made w #[x0] t0).alloc _).alloc _
 ·have := (Blk.made (w.alloc (.cells #[x0] t0)) #[x1] t1).alloc (.cells #[x2] t2)
  simpa using this
 ·have := Blk.made ((w.alloc (.cells #[x0] t0)).alloc (.cells #[x1] t1)) #[x2] t2
  simpa using this
def PClo (w : World) (O : Nat → Prop) (q : Nat) (m : PutM) (t : Value) : Prop :=
 match m.pc with
 | .done => t = .nilFunc
 | .hd0 => ∃ v1, Clo w O t 73 [v1] ∧ Clo w O v1 68 [ptr q]
 | .tl => ∃ v1, Clo w O t 73 [v1] ∧ Clo w O v1 99 [ptr q]
 | .rm x => ∃ v1 ve vt, Clo w O t 73 [v1] ∧ Clo w O v1 131 [ptr q, ve, vt] ∧ Clo w O ve 100 [ptr q, .int .u64 x] ∧ Clo w O vt 102 [ptr q, .int .u64 x]
 | .rs x v => ∃ vt, Clo w O t 107 [vt] ∧ Clo w O vt 102 [ptr q, .int .u64 x]
 | .ph x => ∃ v1 ve vt, Clo w O t 73 [v1] ∧ Clo w O v1 131 [ptr q, ve, vt] ∧ Clo w O ve 105 [ptr q] ∧ Clo w O vt 106 [ptr q, .int .u64 x, .int .i64 (m.c.s - x % m.c.s)]
 | .ps x v => ∃ vt, Clo w O t 107 [vt] ∧ Clo w O vt 106 [ptr q, .int .u64 x, .int .i64 (m.c.s - x % m.c.s)]
 | .cs x pad => ∃ v1, Clo w O t 157 [v1] ∧ Clo w O v1 134 [ptr q, .int .u64 x, .int .i64 pad]
 | .pd x => ∃ v1, Clo w O t 107 [v1] ∧ Clo w O v1 136 [ptr q]
 | .wh a => ∃ v1, Clo w O t 107 [v1] ∧ Clo w O v1 158 [ptr q, .int .i64 a, .int .i32 m.c.n]
 | .wb a p l => False
 | .fi a => ∃ v1, Clo w O t 107 [v1] ∧ Clo w O v1 160 [ptr q]
def PutAt (w : World) (O : Nat → Prop) (q : Nat) (m : PutM) (bv : Value) : Prop :=
 match m.pc with
 | .wb a p l => ∃ f0, InSt w O q p l f0 (m.rest bv) ∧ Clo w O f0 159 [ptr q, .int .i64 a, .int .i32 m.c.n]
 | _ => ∃ t, Mch w q m.want.acc t (m.rest bv) ∧ PClo w O q m t
def Gr (O : Nat → Prop) (w w' : World) : Nat → Prop := fun k => O k ∨ (w.heap.size ≤ k ∧ k < w'.heap.size)
def PutTo (w : World) (O : Nat → Prop) (q : Nat) (m : PutM) (bv : Value) (w' : World) : Prop := PutAt w' (Gr O w w') q m bv ∧ Keep (· = q) w w'
structure PutW (w : World) (O : Nat → Prop) (q : Nat) (m : PutM) (bv : Value) : Prop where
 mch : Mch w q accZ .nilFunc (m.rest bv)
 rd : RdB w bv m.c.d
 ob : ∀ i, bv.ownBlock = some i → O i
 nq : ¬ O q
 ok : m.c.ok = true
variable {O : Nat → Prop} {bv : Value}
theorem PutW.lt {w : World} (h : PutW w O q m bv) : q < w.heap.size := by
 exact Blk.lt h.mch
theorem PutW.keep {w w' : World} {O M : Nat → Prop} (h : PutW w O q m bv) (k : Keep M w w') (hd : ∀ i, O i → ¬ M i) (hq : ¬ M q) : PutW w' O q m bv := by
 refine ⟨Blk.keep h.mch k hq, ?_, h.ob, h.nq, h.ok⟩
 rcases h.rd with h1 | h1 | ⟨b, off, cap, e1, e2, e3, e4⟩
 ·exact .inl h1
 ·exact .inr (.inl h1)
 ·refine .inr <| .inr ⟨b, off, cap, e1, e2, e3, fun i hi => ?_⟩
  have hc := e4 i hi
  exact (k.cell _ (World.block_lt_of_cell? w _ hc) (hd _ (h.ob b (by rw [e1]; rfl)))).trans hc
theorem PutW.below {w w' : World} (h : PutW w O q m bv) (b : Below w.heap.size w w') : PutW w' O q m bv := h.keep (M := fun _ => False) (Below.keeps b) (fun _ _ => id) id
theorem PutTo.past {w w1 w' : World} (h : PutTo w1 O q m bv w') (k : Keep (· = q) w w1) (hm : ∀ O O' : Nat → Prop, (∀ i, O i → O' i) → PutAt w' O q m bv → PutAt w' O' q m bv) : PutTo w O q m bv w' := by
 refine ⟨hm _ _ (fun i hi => ?_) h.1, k.trans h.2⟩
 rcases hi with hi | hi
 ·exact .inl hi
 ·exact .inr ⟨Nat.le_trans k.size hi.1, hi.2⟩
theorem PClo.mono {w : World} {O O' : Nat → Prop} {t : Value} (h : PClo w O q m t) (hd : ∀ i, O i → O' i) : PClo w O' q m t := by
 unfold PClo at h ⊢
 split at h
 ·exact h
 ·obtain ⟨v1, h1, h2⟩ := h
  exact ⟨v1, h1.mono hd, h2.mono hd⟩
 ·obtain ⟨v1, h1, h2⟩ := h
  exact ⟨v1, h1.mono hd, h2.mono hd⟩
 ·obtain ⟨v1, ve, vt, h1, h2, h3, h4⟩ := h
  exact ⟨v1, ve, vt, h1.mono hd, h2.mono hd, h3.mono hd, h4.mono hd⟩
 ·obtain ⟨v1, h1, h2⟩ := h
  exact ⟨v1, h1.mono hd, h2.mono hd⟩
 ·obtain ⟨v1, ve, vt, h1, h2, h3, h4⟩ := h
  exact ⟨v1, ve, vt, h1.mono hd, h2.mono hd, h3.mono hd, h4.mono hd⟩
 ·obtain ⟨v1, h1, h2⟩ := h
  exact ⟨v1, h1.mono hd, h2.mono hd⟩
 ·obtain ⟨v1, h1, h2⟩ := h
  exact ⟨v1, h1.mono hd, h2.mono hd⟩
 ·obtain ⟨v1, h1, h2⟩ := h
  exact ⟨v1, h1.mono hd, h2.mono hd⟩
 ·obtain ⟨v1, h1, h2⟩ := h
  exact ⟨v1, h1.mono hd, h2.mono hd⟩
 ·exact h
 ·obtain ⟨v1, h1, h2⟩ := h
  exact ⟨v1, h1.mono hd, h2.mono hd⟩
theorem PClo.keep {w w' : World} {O M : Nat → Prop} {t : Value} (h : PClo w O q m t) (k : Keep M w w') (hd : ∀ i, O i → ¬ M i) : PClo w' O q m t := by
 unfold PClo at h ⊢
 split at h
 ·exact h
 ·obtain ⟨v1, h1, h2⟩ := h
  exact ⟨v1, h1.keep k hd, h2.keep k hd⟩
 ·obtain ⟨v1, h1, h2⟩ := h
  exact ⟨v1, h1.keep k hd, h2.keep k hd⟩
 ·obtain ⟨v1, ve, vt, h1, h2, h3, h4⟩ := h
  exact ⟨v1, ve, vt, h1.keep k hd, h2.keep k hd, h3.keep k hd, h4.keep k hd⟩
 ·obtain ⟨v1, h1, h2⟩ := h
  exact ⟨v1, h1.keep k hd, h2.keep k hd⟩
 ·obtain ⟨v1, ve, vt, h1, h2, h3, h4⟩ := h
  exact ⟨v1, ve, vt, h1.keep k hd, h2.keep k hd, h3.keep k hd, h4.keep k hd⟩
 ·obtain ⟨v1, h1, h2⟩ := h
  exact ⟨v1, h1.keep k hd, h2.keep k hd⟩
 ·obtain ⟨v1, h1, h2⟩ := h
  exact ⟨v1, h1.keep k hd, h2.keep k hd⟩
 ·obtain ⟨v1, h1, h2⟩ := h
  exact ⟨v1, h1.keep k hd, h2.keep k hd⟩
 ·obtain ⟨v1, h1, h2⟩ := h
  exact ⟨v1, h1.keep k hd, h2.keep k hd⟩
 ·exact h
 ·obtain ⟨v1, h1, h2⟩ := h
  exact ⟨v1, h1.keep k hd, h2.keep k hd⟩
theorem PutAt.mono {w : World} {O O' : Nat → Prop} (h : PutAt w O q m bv) (hd : ∀ i, O i → O' i) : PutAt w O' q m bv := by
 unfold PutAt at h ⊢
 split at h
 ·obtain ⟨f0, h1, h2⟩ := h
  exact ⟨f0, h1.mono hd, h2.mono hd⟩
 ·obtain ⟨t, h1, h2⟩ := h
  exact ⟨t, h1, h2.mono hd⟩
theorem PutAt.keep {w w' : World} {O M : Nat → Prop} (h : PutAt w O q m bv) (k : Keep M w w') (hd : ∀ i, O i → ¬ M i) (hq : ¬ M q) : PutAt w' O q m bv := by
 unfold PutAt at h ⊢
 split at h
 ·obtain ⟨f0, h1, h2⟩ := h
  exact ⟨f0, h1.keep k hd hq, h2.keep k hd⟩
 ·obtain ⟨t, h1, h2⟩ := h
  exact ⟨t, Blk.keep h1 k hq, h2.keep k hd⟩
theorem PutAt.made {w : World} {bv t : Value} (hpc : ∀ a p l, m.pc ≠ .wb a p l) (h : Mch w q m.want.acc t (m.rest bv)) (hc : PClo w O q m t) : PutAt w O q m bv := by
 unfold PutAt
 split
 ·rename_i a p l e
  exact absurd e (hpc a p l)
 ·exact ⟨t, h, hc⟩
theorem PutTo.after {w w1 w' : World} (h : PutTo w1 O q m bv w') (k : Keep (· = q) w w1) : PutTo w O q m bv w' :=
 h.past k (fun _ _ hd h => h.mono hd)
theorem PutW.bd {w : World} (h : PutW w O q m bv) :
  (m.c.s = 64 ∨ m.c.s = 128 ∨ m.c.s = 256 ∨ m.c.s = 512 ∨ m.c.s = 1024 ∨ m.c.s = 2048 ∨ m.c.s = 4096 ∨ m.c.s = 8192) ∧ isP m.c.s = true ∧ 64 ≤ m.c.s ∧ m.c.s ≤ 8192 ∧ 0 ≤ m.c.b ∧ m.c.b ≤ 131040 - m.c.s ∧ 8 ≤ m.c.nd ∧ m.c.nd ≤ 1040 ∧ m.c.d.length ≤ 1024 := by
 obtain ⟨h1, h2, h3⟩ := PutC.ok_bd h.ok
 obtain ⟨a1, a2, a3, a4, a5, a6⟩ := rgOk_bd h1
 obtain ⟨b1, b2, b3⟩ := PutC.nd_bd h.ok
 refine ⟨rg_pow a1 a2 a3, a1, a2, a3, a4, a6, ?_, ?_, ?_⟩ <;> omega
set_option maxHeartbeats 1000000 in
theorem pEnd_any (w : World) (h : PutW w O q m bv) :
  Calls Tryz.prog 67 #[.pointer (some ⟨q, 0, none⟩)] w fun e w' => e = .returned (.int .i64 m.end) ∧ Below w.heap.size w w' := by
 obtain ⟨b0, b1, b2, b3, b4, b5, b6, b7, b8⟩ := h.bd
 have hlt := h.lt
 obtain ⟨c7, c8, _⟩ := put_cells h.mch
 have W : IntKind.i64.wrap (m.c.b + m.c.s) = m.c.b + m.c.s := IntWalk.i64_in _ ⟨by omega, by omega⟩
 have HE := Lib.hid (show m.end = m.c.b + m.c.s from rfl)
 clear h b0 b1
 go_enter Tryz.func67, Tryz.ntmps67
 go_wp2
 go_quiet (fail)
 go_wp2
 go_ret
 exact ⟨by rw [HE.out]; rfl, bel_drewN _ (Below.refl _ _)⟩
set_option maxHeartbeats 1000000 in
theorem pPlace_any (v : Int) (w : World) (h : PutW w O q m bv) :
  Calls Tryz.prog 103 #[.pointer (some ⟨q, 0, none⟩), .int .u64 v] w fun e w' => e = .returned (.int .i64 (v % m.c.s)) ∧ w = w' := by
 obtain ⟨b0, b1, b2, b3, b4, b5, b6, b7, b8⟩ := h.bd
 have hlt := h.lt
 obtain ⟨c7, c8, _⟩ := put_cells h.mch
 have HM := Lib.hid (show mkS (wrap64 v) m.c.s = v % m.c.s by unfold mkS; rw [if_pos b1, show wrap64 v = s64 v by unfold wrap64 s64; rfl]; exact s64_mod b0 v)
 clear h b0 b1
 go_enter Tryz.func103, Tryz.ntmps103
 go_wp2_with fail
 refine (mask_any _ _ _ (by omega)).mono ?_
 rintro e w' ⟨rfl, rfl⟩
 go_wp2
 go_ret
 exact ⟨by rw [← HM.out]; rfl, rfl⟩
theorem PutW.drew {w : World} (h : PutW w O q m bv) : PutW w.drew O q m bv := h.below (bel_drewN 1 (Below.refl _ _))
theorem PutW.alloc {w : World} (h : PutW w O q m bv) (o : Obj) : PutW (w.alloc o) O q m bv := h.below ((Below.refl _ _).alloc (Nat.le_refl _) _)
set_option maxHeartbeats 1000000 in
theorem pTail_any (w : World) (h : PutW w O q m bv) :
  Calls Tryz.prog 69 #[.pointer (some ⟨q, 0, none⟩)] w fun e w' => e = .returned (.tuple #[]) ∧ PutTo w O q { m with pc := .tl } bv w' := by
 have hlt := h.lt
 have H := Lib.hid h
 clear h
 go_enter Tryz.func69, Tryz.ntmps69
 go_wp2_with fail
 go_region_held3 (fun w' => w'.cell? ⟨w.heap.size, 0, none⟩ = some (.pointer (some ⟨q, 0, none⟩))) (first | go_keep | trivial)
  (first
   | (go_at_call 67; refine (pEnd_any _ ((H.out.alloc _).drew)).mono ?_; rintro e w2 ⟨rfl, b2⟩; have hc := fun o => b2.cell (p := ⟨w.heap.size, o, none⟩) (by simp))
   | (go_at_call 36; refine (cLoad_any q _ _ _ m.end 8 _ _ _ (((H.out.alloc _).drew).below b2).mch).mono ?_; rintro e w3 ⟨rfl, t3, m3, l3, k3⟩; have hc3 := fun o => k3.cell (b := w.heap.size) o (by have := b2.size; simp at this; omega) (by show ¬ w.heap.size = q; omega)))
 all_goals
  have z2 := b2.size
  have z3 := k3.size
  simp at z2
  clear hc hc3
  go_wp2
  go_end0
  refine ⟨rfl, PutAt.made (by nofun) m3 ⟨_, l3.mono (fun i hi => .inr ⟨by omega, hi.2⟩), Clo.mk1 ?_ (.inr ⟨Nat.le_refl _, by omega⟩)⟩, ?_⟩
  ·exact (((Blk.made w _ _).drew).below b2 (by simp)).keep k3 (by show ¬ w.heap.size = q; omega)
  ·exact ((((Keep.refl _ w).alloc _).drew).trans (Below.keeps b2)).trans k3
set_option maxHeartbeats 1000000 in
theorem pClaim_any (t pad : Int) (w : World) (h : PutW w O q m bv) (hp0 : 0 ≤ pad) (hp1 : pad ≤ 8192) :
  Calls Tryz.prog 104 #[.pointer (some ⟨q, 0, none⟩), .int .u64 t, .int .i64 pad] w fun e w' => e = .returned (.tuple #[]) ∧ PutTo w O q { m with pc := .cs t pad } bv w' := by
 have hlt := h.lt
 have H := Lib.hid h
 obtain ⟨b0, b1, b2, b3, b4, b5, b6, b7, b8⟩ := h.bd
 obtain ⟨_, _, _, _, c11, _⟩ := put_cells h.mch
 have W1 : IntKind.i64.wrap (m.c.nd + pad) = m.c.nd + pad := IntWalk.i64_in _ ⟨by omega, by omega⟩
 have W2 : IntKind.u64.wrap (m.c.nd + pad) = m.c.nd + pad := IntWalk.u64_in _ ⟨by omega, by omega⟩
 have W3 : IntKind.u64.wrap (t + (m.c.nd + pad)) = u64 (t + (m.c.nd + pad)) := wrap_u64' _
 clear h b0 b1
 go_enter Tryz.func104, Tryz.ntmps104
 go_wp2_with fail
 obtain ⟨w3, hw3, x0, x1, x2, hs3, bb3⟩ := pbox3 w (.pointer (some ⟨q, 0, none⟩)) (.int .u64 t) (.int .i64 pad) 97 54 2
 rw [← hw3]
 have X0 := Lib.hid x0
 have X1 := Lib.hid x1
 have X2 := Lib.hid x2
 have B3 := Lib.hid bb3
 have p0 := x0.cell 0
 have p1 := x1.cell 0
 have p2 := x2.cell 0
 have d11 := (bb3.cell (p := ⟨q, 11, none⟩) hlt).trans c11
 simp only [List.getElem?_cons_zero] at p0 p1 p2
 clear hw3 x0 x1 x2 bb3 c11
 go_region_held3 (fun w' => w'.cell? ⟨w.heap.size, 0, none⟩ = some (.pointer (some ⟨q, 0, none⟩)) ∧ w'.cell? ⟨w.heap.size + 1, 0, none⟩ = some (.int .u64 t) ∧ w'.cell? ⟨w.heap.size + 1 + 1, 0, none⟩ = some (.int .i64 pad) ∧ w'.cell? ⟨q, 11, none⟩ = some (.int .i64 m.c.nd)) (first | go_keep | trivial)
  (first
   | (go_at_call 67; refine (pEnd_any _ ((H.out.below B3.out).drew)).mono ?_; rintro e w4 ⟨rfl, b4⟩; have hc0 := fun o => b4.cell (p := ⟨w.heap.size, o, none⟩) (by simp; omega); have hc1 := fun o => b4.cell (p := ⟨w.heap.size + 1, o, none⟩) (by simp; omega); have hc2 := fun o => b4.cell (p := ⟨w.heap.size + 1 + 1, o, none⟩) (by simp; omega); have hc3 := fun o => b4.cell (p := ⟨q, o, none⟩) (by simp; omega))
   | (go_at_call 133; refine (cCas_any q _ _ _ m.end 8 _ _ _ _ _ (((H.out.below B3.out).drew).below b4).mch).mono ?_; rintro e w5 ⟨rfl, t5, m5, l5, k5⟩; have hd0 := fun o => k5.cell (b := w.heap.size) o (by have := b4.size; simp at this; omega) (by show ¬ w.heap.size = q; omega); have hd1 := fun o => k5.cell (b := w.heap.size + 1) o (by have := b4.size; simp at this; omega) (by show ¬ w.heap.size + 1 = q; omega); have hd2 := fun o => k5.cell (b := w.heap.size + 1 + 1) o (by have := b4.size; simp at this; omega) (by show ¬ w.heap.size + 1 + 1 = q; omega); have hd3 := (put_cells m5).2.2.2.2.1))
 all_goals
  have z4 := b4.size
  have z5 := k5.size
  simp at z4
  clear hc0 hc1 hc2 hc3 hd0 hd1 hd2 hd3
  go_wp2
  go_end0
  refine ⟨rfl, PutAt.made (by nofun) m5 ⟨_, l5.mono (fun i hi => .inr ⟨by omega, hi.2⟩), Clo.mk3 ?_ (.inr ⟨Nat.le_refl _, by omega⟩) ?_ (.inr ⟨by omega, by omega⟩) ?_ (.inr ⟨by omega, by omega⟩)⟩, ?_⟩
  ·exact ((X0.out.drew).below b4 (by simp; omega)).keep k5 (by show ¬ w.heap.size = q; omega)
  ·exact ((X1.out.drew).below b4 (by simp; omega)).keep k5 (by show ¬ w.heap.size + 1 = q; omega)
  ·exact ((X2.out.drew).below b4 (by simp; omega)).keep k5 (by show ¬ w.heap.size + 1 + 1 = q; omega)
  ·exact (((Below.keeps B3.out).drew).trans (Below.keeps b4)).trans k5
theorem PutW.put {w : World} {m m' : PutM} (h : PutW w O q m bv) (i : Nat) (u : Value) (hc : m'.c = m.c) (hm : (accZ.cs ++ Value.nilFunc :: m.rest bv).set i u = accZ.cs ++ Value.nilFunc :: m'.rest bv) : PutW (w.setCell ⟨q, i, none⟩ u) O q m' bv := by
 have k : Keep (· = q) w (w.setCell ⟨q, i, none⟩ u) := Keep.setCell (M := (· = q)) (Keep.refl _ w) (p := ⟨q, i, none⟩) (.inl rfl) _
 refine ⟨?_, ?_, h.ob, h.nq, by rw [hc]; exact h.ok⟩
 ·have := Blk.set h.mch i u
  rw [hm] at this
  exact this
 ·rw [hc]
  rcases h.rd with h1 | h1 | ⟨b, off, cap, e1, e2, e3, e4⟩
  ·exact .inl h1
  ·exact .inr (.inl h1)
  ·refine .inr <| .inr ⟨b, off, cap, e1, e2, e3, fun i hi => ?_⟩
   have hc := e4 i hi
   exact (k.cell _ (World.block_lt_of_cell? w _ hc) (fun e => h.nq (e ▸ h.ob b (by rw [e1]; rfl)))).trans hc
set_option maxHeartbeats 1000000 in
theorem pStop_any (e0 : Int) (w : World) (h : PutW w O q m bv) :
  Calls Tryz.prog 132 #[.pointer (some ⟨q, 0, none⟩), .int .i64 e0] w fun e w' => e = .returned (.tuple #[]) ∧ PutW w' O q { m with e := e0 } bv ∧ Keep (· = q) w w' := by
 have hlt := h.lt
 have H := Lib.hid h
 have c15 := Blk.cell h.mch 15
 have f15 := Blk.frozen h.mch 15
 clear h
 go_enter Tryz.func132, Tryz.ntmps132
 go_wp2
 go_end0
 exact ⟨rfl, H.out.put 15 _ rfl rfl, Keep.setCell (M := (· = q)) (Keep.refl _ w) (p := ⟨q, 15, none⟩) (.inl rfl) _⟩
set_option maxHeartbeats 2000000 in
theorem pLook_any (ge gt : Nat) (gce gct : Array Value) (en : Bool) (w : World) (h : PutW w O q m bv) (hee : En ge) (het : En gt) (Q : World → Prop)
  (he : ∀ w1, Below w.heap.size w w1 → Calls Tryz.prog ge gce w1 fun e w' => e = .returned (.bool en) ∧ Below w1.heap.size w1 w')
  (ht : en = true → ∀ w1, Below w.heap.size w w1 → Calls Tryz.prog gt gct w1 fun e w' => e = .returned (.tuple #[]) ∧ Q w')
  (hl : en = false → ∀ w' t' v1, Mch w' q ⟨1, m.end + 16, 8, 0, 0, .slice none 0 0⟩ t' (m.rest bv) → Clo w' (fun k => w.heap.size ≤ k ∧ k < w'.heap.size) t' 73 [v1] → Clo w' (fun k => w.heap.size ≤ k ∧ k < w'.heap.size) v1 131 [ptr q, .func (.func ge) #[] gce, .func (.func gt) #[] gct] → Keep (· = q) w w' → Q w') :
  Calls Tryz.prog 101 #[.pointer (some ⟨q, 0, none⟩), .func (.func ge) #[] gce, .func (.func gt) #[] gct] w fun e w' => e = .returned (.tuple #[]) ∧ Q w' := by
 have hlt := h.lt
 have H := Lib.hid h
 obtain ⟨b0, b1, b2, b3, b4, b5, b6, b7, b8⟩ := h.bd
 have hE : 64 ≤ m.end ∧ m.end ≤ 131040 := by unfold PutM.end; omega
 have W1 : IntKind.i64.wrap (m.end + 16) = m.end + 16 := IntWalk.i64_in _ ⟨by omega, by omega⟩
 have HE := Lib.hid he
 have HT := Lib.hid ht
 have HL := Lib.hid hl
 unfold En at hee het
 clear h he ht hl b0 b1 b2 b3 b4 b5 b6 b7 b8 hE
 go_enter Tryz.func101, Tryz.ntmps101
 go_wp2_with fail
 obtain ⟨w3, hw3, x0, x1, x2, hs3, bb3⟩ := pbox3 w (.pointer (some ⟨q, 0, none⟩)) (.func (.func ge) #[] gce) (.func (.func gt) #[] gct) 97 23 1
 rw [← hw3]
 have X0 := Lib.hid x0
 have X1 := Lib.hid x1
 have X2 := Lib.hid x2
 have B3 := Lib.hid bb3
 clear hw3 x0 x1 x2 bb3
 refine (HE.out _ B3.out).mono ?_
 rintro e w4 ⟨rfl, b4⟩
 have B4 := Lib.hid b4
 have z4 := b4.size
 have p0 := (X0.out.below b4 (by omega)).cell 0
 have p2 := (X2.out.below b4 (by omega)).cell 0
 simp only [List.getElem?_cons_zero] at p0 p2
 clear b4
 cases en with
 | true =>
  go_wp2_with fail
  refine (HT.out (by trivial) _ (B3.out.trans (B4.out.mono (by omega)))).mono ?_
  rintro e w5 ⟨rfl, hQ⟩
  go_wp2
  exact bodyPost_ret (v := .tuple #[]) (results_none rfl _ _ _) rfl ⟨rfl, hQ⟩
 | false =>
  go_wp2_with fail
  go_region_held3 (fun w' => w'.cell? ⟨w.heap.size, 0, none⟩ = some (.pointer (some ⟨q, 0, none⟩))) (first | go_keep | trivial)
   (first
    | (go_at_call 67; refine (pEnd_any _ (((H.out.below B3.out).below B4.out).drew)).mono ?_; rintro e w5 ⟨rfl, b5⟩; have hc := fun o => b5.cell (p := ⟨w.heap.size, o, none⟩) (by simp; omega))
    | (go_at_call 36; refine (cLoad_any q _ _ _ _ 8 _ _ _ ((((H.out.below B3.out).below B4.out).drew).below b5).mch).mono ?_; rintro e w6 ⟨rfl, t6, m6, l6, k6⟩; have hc6 := fun o => k6.cell (b := w.heap.size) o (by have := b5.size; simp at this; omega) (by show ¬ w.heap.size = q; omega)))
  all_goals
   have z5 := b5.size
   have z6 := k6.size
   simp at z5
   clear hc hc6
   go_wp2
   go_end0
   refine ⟨rfl, HL.out (by trivial) _ t6 _ m6 (l6.mono (fun i hi => ⟨by omega, hi.2⟩)) (Clo.mk3 ?_ ⟨by omega, by omega⟩ ?_ ⟨by omega, by omega⟩ ?_ ⟨by omega, by omega⟩) ?_⟩
   ·exact (((X0.out.below B4.out (by omega)).drew).below b5 (by simp; omega)).keep k6 (by show ¬ w.heap.size = q; omega)
   ·exact (((X1.out.below B4.out (by omega)).drew).below b5 (by simp; omega)).keep k6 (by show ¬ w.heap.size + 1 = q; omega)
   ·exact (((X2.out.below B4.out (by omega)).drew).below b5 (by simp; omega)).keep k6 (by show ¬ w.heap.size + 1 + 1 = q; omega)
   ·exact ((((Below.keeps B3.out).trans (Below.keeps B4.out)).drew).trans (Below.keeps b5)).trans k6
set_option maxHeartbeats 2000000 in
theorem pLookK_any (v : Int) (ge gt : Nat) (gce gct : Array Value) (en : Bool) (pb eb tb : Nat) (w : World) (h : PutW w O q m bv) (hee : En ge)
  (hpb : Blk w pb [ptr q]) (heb : Blk w eb [.func (.func ge) #[] gce]) (htb : Blk w tb [.func (.func gt) #[] gct]) (hn : pb ≠ q ∧ eb ≠ q ∧ tb ≠ q)
  (he : ∀ w1, PutW w1 O q { m with hd := v } bv → Keep (· = q) w w1 → Calls Tryz.prog ge gce w1 fun e w' => e = .returned (.bool en) ∧ Below w1.heap.size w1 w') :
  Calls Tryz.prog 131 #[.int .u64 v, ptr pb, ptr eb, ptr tb] w fun e w' => e = .returned (.tuple #[]) ∧ Keep (· = q) w w' ∧
   (en = true → ∃ t', Mch w' q ⟨2, m.end + 8, 8, v, 0, .slice none 0 0⟩ t' (({ m with hd := v } : PutM).rest bv) ∧ Clo w' (fun k => w.heap.size ≤ k ∧ k < w'.heap.size) t' 107 [.func (.func gt) #[] gct]) ∧
   (en = false → Mch w' q accZ .nilFunc (({ m with hd := v, e := 5 } : PutM).rest bv)) := by
 have hlt := h.lt
 have H := Lib.hid h
 obtain ⟨b0, b1, b2, b3, b4, b5, b6, b7, b8⟩ := h.bd
 have hE : 64 ≤ ({ m with hd := v } : PutM).end ∧ ({ m with hd := v } : PutM).end ≤ 131040 := by unfold PutM.end; dsimp only; omega
 have W1 : IntKind.i64.wrap (({ m with hd := v } : PutM).end + 8) = ({ m with hd := v } : PutM).end + 8 := IntWalk.i64_in _ ⟨by omega, by omega⟩
 have HE := Lib.hid he
 have P0 := Lib.hid hpb
 have P1 := Lib.hid heb
 have P2 := Lib.hid htb
 have p0 := hpb.cell 0
 have p1 := heb.cell 0
 have p2 := htb.cell 0
 have l0 := hpb.lt
 have l1 := heb.lt
 have l2 := htb.lt
 simp only [List.getElem?_cons_zero, ptr] at p0 p1 p2
 obtain ⟨n0, n1, n2⟩ := hn
 have c12 := Blk.cell h.mch 12
 have f12 := Blk.frozen h.mch 12
 unfold En at hee
 unfold ptr
 clear h he b0 b1 b2 b3 b4 b5 b6 b7 b8 hE hpb heb htb
 go_enter Tryz.func131, Tryz.ntmps131
 go_wp2_with fail
 have K1 := Lib.hid (Keep.setCell (M := (· = q)) (Keep.refl _ w) (p := ⟨q, 12, none⟩) (.inl rfl) (.int .u64 v))
 have H1 := Lib.hid (H.out.put (m' := { m with hd := v }) 12 (.int .u64 v) rfl rfl)
 refine (HE.out _ H1.out K1.out).mono ?_
 rintro e w4 ⟨rfl, b4⟩
 have B4 := Lib.hid b4
 have z4 := b4.size
 simp at z4
 have H4 := Lib.hid (H1.out.below b4)
 have k4 := K1.out.trans (Below.keeps b4)
 have p0' := (k4.cell (b := pb) 0 l0 n0).trans p0
 have p2' := (k4.cell (b := tb) 0 l2 n2).trans p2
 have K4 := Lib.hid k4
 clear b4 k4 p0 p1 p2 c12 f12
 cases en with
 | true =>
  go_wp2_with fail
  go_region_held3 (fun w' => w'.cell? ⟨pb, 0, none⟩ = some (.pointer (some ⟨q, 0, none⟩)) ∧ w'.cell? ⟨tb, 0, none⟩ = some (.func (.func gt) #[] gct)) (first | go_keep | trivial)
   (first
    | (go_at_call 67; refine (pEnd_any (m := { m with hd := v }) _ (H4.out.drew)).mono ?_; rintro e w5 ⟨rfl, b5⟩; have hc := fun o => b5.cell (p := ⟨pb, o, none⟩) (by simp; omega); have hc' := fun o => b5.cell (p := ⟨tb, o, none⟩) (by simp; omega))
    | (go_at_call 74; refine (cStore_any q _ _ _ _ 8 v _ _ _ ((H4.out.drew).below b5).mch).mono ?_; rintro e w6 ⟨rfl, t6, m6, l6, k6⟩; have hc6 := fun o => k6.cell (b := pb) o (by have := b5.size; simp at this; omega) n0; have hc6' := fun o => k6.cell (b := tb) o (by have := b5.size; simp at this; omega) n2))
  all_goals
   have z5 := b5.size
   have z6 := k6.size
   simp at z5
   clear hc hc' hc6 hc6'
   go_wp2
   go_end0
   refine ⟨rfl, ((K4.out.drew).trans (Below.keeps b5)).trans k6, ?_⟩
   exact ⟨t6, m6, l6.mono (fun i hi => ⟨by omega, hi.2⟩)⟩
 | false =>
  go_wp2_with fail
  refine (pStop_any 5 _ H4.out).mono ?_
  rintro e w5 ⟨rfl, h5, k5⟩
  go_wp2
  refine bodyPost_ret (v := .tuple #[]) (results_none rfl _ _ _) rfl ?_
  first | exact ⟨rfl, K4.out.trans k5, h5.mch⟩ | exact ⟨rfl, K4.out.trans k5, trivial, h5.mch⟩ | exact ⟨rfl, K4.out.trans k5, nofun, fun _ => h5.mch⟩
def PutM.tailed (m : PutM) (x : Int) : PutM := if m.fit x then m.gapped x else { m with pc := .rm x }
def PutM.claimed (m : PutM) (t pad : Int) : PutM := { m with pos := s64 (s64 t + pad), cl := true, pc := if pad = 0 then .wh (m.c.b + t % m.c.s) else .pd t }
theorem PutW.mono {w : World} {O O' : Nat → Prop} (h : PutW w O q m bv) (hd : ∀ i, O i → O' i) (nq : ¬ O' q) : PutW w O' q m bv := ⟨h.mch, h.rd, fun i hi => hd _ (h.ob i hi), nq, h.ok⟩
theorem PutTo.from {w w1 w' : World} {O O1 : Nat → Prop} (h : PutTo w1 O1 q m bv w') (k : Keep (· = q) w w1) (hO : ∀ i, O1 i → O i ∨ (w.heap.size ≤ i ∧ i < w1.heap.size)) : PutTo w O q m bv w' := by
 have z := h.2.size
 refine ⟨h.1.mono (fun i hi => ?_), k.trans h.2⟩
 rcases hi with hi | hi
 ·rcases hO i hi with h | h
  ·exact .inl h
  ·exact .inr ⟨h.1, by omega⟩
 ·exact .inr ⟨Nat.le_trans k.size hi.1, hi.2⟩
theorem PutAt.mch {w : World} (h : PutAt w O q m bv) : ∃ c t, Mch w q c t (m.rest bv) := by
 unfold PutAt at h
 split at h
 ·obtain ⟨f0, ⟨b, off, cap, n, t, hm, _⟩, _⟩ := h
  exact ⟨_, _, hm⟩
 ·obtain ⟨t, hm, _⟩ := h
  exact ⟨_, _, hm⟩
theorem enTailK : En 99 := enters_of Tryz.func99 (by kernel_rfl) rfl
theorem enNewK : En 68 := enters_of Tryz.func68 (by kernel_rfl) rfl
theorem enLookK : En 131 := enters_of Tryz.func131 (by kernel_rfl) rfl
theorem enRoom : En 100 := enters_of Tryz.func100 (by kernel_rfl) rfl
theorem enGap : En 102 := enters_of Tryz.func102 (by kernel_rfl) rfl
theorem enRoom2 : En 105 := enters_of Tryz.func105 (by kernel_rfl) rfl
theorem enGap2 : En 106 := enters_of Tryz.func106 (by kernel_rfl) rfl
theorem enClaimK : En 134 := enters_of Tryz.func134 (by kernel_rfl) rfl
theorem enClaimK1 : En 136 := enters_of Tryz.func136 (by kernel_rfl) rfl
theorem enWrite : En 158 := enters_of Tryz.func158 (by kernel_rfl) rfl
theorem enWrite1 : En 159 := enters_of Tryz.func159 (by kernel_rfl) rfl
theorem enWrite2 : En 160 := enters_of Tryz.func160 (by kernel_rfl) rfl
set_option maxHeartbeats 1000000 in
theorem pRoom_any (x : Int) (pb tb : Nat) (w : World) (h : PutW w O q m bv) (hp : Blk w pb [ptr q]) (ht : Blk w tb [.int .u64 x]) :
  Calls Tryz.prog 100 #[ptr pb, ptr tb] w fun e w' => e = .returned (.bool (m.fit x)) ∧ Below w.heap.size w w' := by
 obtain ⟨b0, b1, b2, b3, b4, b5, b6, b7, b8⟩ := h.bd
 obtain ⟨c7, c8, c9, c10, c11, c12, _⟩ := put_cells h.mch
 have hlt := h.lt
 have l0 := hp.lt
 have l1 := ht.lt
 have p0 := hp.cell 0
 have t0 := ht.cell 0
 simp only [List.getElem?_cons_zero, ptr] at p0 t0
 have W1 : IntKind.u64.wrap m.c.s = m.c.s := IntWalk.u64_in _ ⟨by omega, by omega⟩
 have HF := Lib.hid (show m.fit x = decide (m.c.nd ≤ wrap64 (IntKind.u64.wrap (m.c.s - IntKind.u64.wrap (x - m.hd)))) by rw [wrap_u64', wrap_u64']; unfold PutM.fit wrap64 s64; rfl)
 unfold ptr
 clear h hp ht b0 b1
 go_enter Tryz.func100, Tryz.ntmps100
 go_wp2
 go_quiet (fail)
 go_wp2
 go_ret
 exact ⟨by rw [HF.out]; rfl, bel_drewN _ (Below.refl _ _)⟩
set_option maxHeartbeats 1000000 in
theorem pRoom2_any (pb : Nat) (w : World) (h : PutW w O q m bv) (hp : Blk w pb [ptr q]) :
  Calls Tryz.prog 105 #[ptr pb] w fun e w' => e = .returned (.bool (decide (m.c.nd ≤ m.hd % m.c.s))) ∧ Below w.heap.size w w' := by
 have H := Lib.hid h
 obtain ⟨c7, c8, c9, c10, c11, c12, _⟩ := put_cells h.mch
 have hlt := h.lt
 have l0 := hp.lt
 have p0 := hp.cell 0
 simp only [List.getElem?_cons_zero, ptr] at p0
 unfold ptr
 clear h hp
 go_enter Tryz.func105, Tryz.ntmps105
 go_wp2_with fail
 go_quiet ((go_at_call 103; exact quietR (pPlace_any m.hd _ (H.out.below (bel_drewN _ (Below.refl _ _))))))
 go_wp2
 go_ret
 exact ⟨rfl, bel_drewN _ (Below.refl _ _)⟩
set_option maxHeartbeats 2000000 in
theorem pGap2_any (x g : Int) (pb tb gb : Nat) (w : World) (h : PutW w O q m bv) (hp : Blk w pb [ptr q]) (ht : Blk w tb [.int .u64 x]) (hg : Blk w gb [.int .i64 g]) (hg0 : 0 ≤ g) (hg1 : g ≤ 8192) :
  Calls Tryz.prog 106 #[ptr pb, ptr tb, ptr gb] w fun e w' => e = .returned (.tuple #[]) ∧ PutTo w O q { m with pc := .cs x g } bv w' := by
 have H := Lib.hid h
 have hlt := h.lt
 have l0 := hp.lt
 have l1 := ht.lt
 have l2 := hg.lt
 have p0 := hp.cell 0
 have t0 := ht.cell 0
 have g0 := hg.cell 0
 simp only [List.getElem?_cons_zero, ptr] at p0 t0 g0
 unfold ptr
 clear h hp ht hg
 go_enter Tryz.func106, Tryz.ntmps106
 go_wp2_with fail
 refine (pClaim_any x g _ H.out hg0 hg1).mono ?_
 rintro e w1 ⟨rfl, hQ⟩
 go_wp2
 go_end0
 exact ⟨rfl, hQ⟩
set_option maxHeartbeats 2000000 in
theorem pGap_any (x : Int) (pb tb : Nat) (w : World) (h : PutW w O q m bv) (hp : Blk w pb [ptr q]) (ht : Blk w tb [.int .u64 x]) (op : O pb) (ot : O tb) :
  Calls Tryz.prog 102 #[ptr pb, ptr tb] w fun e w' => e = .returned (.tuple #[]) ∧ PutTo w O q (m.gapped x) bv w' := by
 have H := Lib.hid h
 obtain ⟨b0, b1, b2, b3, b4, b5, b6, b7, b8⟩ := h.bd
 obtain ⟨c7, c8, c9, c10, c11, c12, _⟩ := put_cells h.mch
 have hlt := h.lt
 have l0 := hp.lt
 have l1 := ht.lt
 have P0 := Lib.hid hp
 have T0 := Lib.hid ht
 have p0 := hp.cell 0
 have t0 := ht.cell 0
 simp only [List.getElem?_cons_zero, ptr] at p0 t0
 have m1 := Int.emod_nonneg x (show m.c.s ≠ 0 by omega)
 have m2 := Int.emod_lt_of_pos x (show 0 < m.c.s by omega)
 have W1 : IntKind.i64.wrap (m.c.s - x % m.c.s) = m.c.s - x % m.c.s := IntWalk.i64_in _ ⟨by omega, by omega⟩
 unfold ptr
 clear h hp ht b0 b1
 go_enter Tryz.func102, Tryz.ntmps102
 go_wp2_with fail
 go_upto_region 0 with fail
 go_cut [2] from 3 to 11 (fun g wx => g = .pointer (some ⟨w.heap.size, 0, none⟩) ∧ wx = (w.alloc (.cells #[.int .i64 (m.c.s - x % m.c.s)] 2)).drew)
 case first =>
  go_region_held3 (fun w' => w'.cell? ⟨pb, 0, none⟩ = some (.pointer (some ⟨q, 0, none⟩)) ∧ w'.cell? ⟨tb, 0, none⟩ = some (.int .u64 x) ∧ w'.cell? ⟨q, 8, none⟩ = some (.int .i64 m.c.s)) (first | go_keep | trivial)
   (first
    | (go_at_call 103; refine (pPlace_any x _ (H.out.below (by go_grown))).mono ?_; rintro e w2 ⟨rfl, rfl⟩))
  all_goals (go_wp2_with fail; go_meet; exact ⟨rfl, rfl⟩)
 case rest =>
  obtain ⟨rfl, rfl⟩ := hcut
  have b1 : Below w.heap.size w (w.alloc (.cells #[.int .i64 (m.c.s - x % m.c.s)] 2)).drew := by go_grown
  have G1 := Lib.hid ((Blk.made w #[.int .i64 (m.c.s - x % m.c.s)] 2).drew)
  obtain ⟨w1, hw1⟩ : ∃ w1, w1 = (w.alloc (.cells #[.int .i64 (m.c.s - x % m.c.s)] 2)).drew := ⟨_, rfl⟩
  rw [← hw1] at b1 G1 ⊢
  have z1 : w1.heap.size = w.heap.size + 1 := by rw [hw1]; simp
  have d0 := (b1.cell (p := ⟨pb, 0, none⟩) l0).trans p0
  have d1 := (b1.cell (p := ⟨tb, 0, none⟩) l1).trans t0
  have d11 := (b1.cell (p := ⟨q, 11, none⟩) hlt).trans c11
  have g0 := G1.out.cell 0
  simp only [List.getElem?_toArray, List.getElem?_cons_zero] at g0
  have H1 := Lib.hid (H.out.below b1)
  have P1 := Lib.hid (P0.out.below b1 l0)
  have T1 := Lib.hid (T0.out.below b1 l1)
  have K1 := Lib.hid (show Keep (· = q) w w1 from Below.keeps b1)
  clear hw1 p0 t0 c7 c8 c9 c10 c11 c12 b1
  by_cases hg : m.c.nd ≤ m.c.s - x % m.c.s
  ·have hG : m.gapped x = { m with pc := .cs x 0 } := by unfold PutM.gapped; rw [if_pos hg]
   have HG := Lib.hid hG
   clear hG
   go_wp2_with fail
   go_quiet (fail)
   go_wp2_with fail
   refine (pClaim_any x 0 _ (H1.out.below (bel_drewN _ (Below.refl _ _))) (by omega) (by omega)).mono ?_
   rintro e w5 ⟨rfl, hto⟩
   go_wp2
   refine bodyPost_ret (v := .tuple #[]) (results_none rfl _ _ _) rfl ⟨rfl, ?_⟩
   rw [HG.out]
   exact hto.from (K1.out.drewN _) (fun i hi => .inl hi)
  ·have hG : m.gapped x = if m.c.nd ≤ m.hd % m.c.s then { m with pc := .cs x (m.c.s - x % m.c.s) } else { m with pc := .ph x } := by unfold PutM.gapped; rw [if_neg hg]
   have HG := Lib.hid hG
   clear hG
   go_wp2_with fail
   go_quiet (fail)
   go_wp2_with fail
   refine (pLook_any 105 106 _ _ (decide (m.c.nd ≤ m.hd % m.c.s)) _ (H1.out.below (bel_drewN _ (Below.refl _ _))) enRoom2 enGap2 (PutTo w O q (m.gapped x) bv) ?_ ?_ ?_).mono ?_
   ·intro w2 b2
    exact pRoom2_any pb w2 ((H1.out.below (bel_drewN _ (Below.refl _ _))).below b2) ((P1.out.drewN _).below b2 (by have := P1.out.lt; simpa using this))
   ·intro hf w2 b2
    have hf2 : m.c.nd ≤ m.hd % m.c.s := of_decide_eq_true hf
    rw [HG.out, if_pos hf2]
    refine (pGap2_any x (m.c.s - x % m.c.s) pb tb w.heap.size w2 ((H1.out.below (bel_drewN _ (Below.refl _ _))).below b2) ((P1.out.drewN _).below b2 (by have := P1.out.lt; simpa using this)) ((T1.out.drewN _).below b2 (by have := T1.out.lt; simpa using this)) ((G1.out.drewN _).below b2 (by have := G1.out.lt; simpa using this)) (by omega) (by omega)).mono ?_
    rintro e w5 ⟨rfl, hto⟩
    exact ⟨rfl, hto.from ((K1.out.drewN _).trans (Below.keeps b2)) (fun i hi => .inl hi)⟩
   ·intro hf w' t' v1 m' c1 c2 k
    have hf2 : ¬ m.c.nd ≤ m.hd % m.c.s := of_decide_eq_false hf
    have zk := k.size
    simp at zk
    rw [HG.out, if_neg hf2]
    refine ⟨PutAt.made (by nofun) m' ⟨v1, _, _, c1.mono (fun i hi => .inr ⟨by simp at hi; omega, hi.2⟩), c2.mono (fun i hi => .inr ⟨by simp at hi; omega, hi.2⟩), Clo.mk1 ?_ (.inl op), Clo.mk3 ?_ (.inl op) ?_ (.inl ot) ?_ (.inr ⟨Nat.le_refl _, by omega⟩)⟩, (K1.out.drewN _).trans k⟩
    ·exact (P1.out.drewN nq).keep k (fun e => H.out.nq (e ▸ op))
    ·exact (P1.out.drewN nq).keep k (fun e => H.out.nq (e ▸ op))
    ·exact (T1.out.drewN nq).keep k (fun e => H.out.nq (e ▸ ot))
    ·exact (G1.out.drewN nq).keep k (by show ¬ w.heap.size = q; omega)
   ·rintro e w5 ⟨rfl, hQ⟩
    go_wp2
    go_end0
    exact ⟨rfl, hQ⟩
set_option maxHeartbeats 2000000 in
theorem pTailK_any (x : Int) (pb : Nat) (w : World) (h : PutW w O q m bv) (hp : Blk w pb [ptr q]) (op : O pb) :
  Calls Tryz.prog 99 #[.int .u64 x, ptr pb] w fun e w' => e = .returned (.tuple #[]) ∧ PutTo w O q (m.tailed x) bv w' := by
 have hlt := h.lt
 have l0 := hp.lt
 have nq := h.nq
 have p0 := hp.cell 0
 simp only [List.getElem?_cons_zero, ptr] at p0
 have T1 := Lib.hid (Blk.made w #[.int .u64 x] 54)
 have H1 := Lib.hid (h.alloc (.cells #[.int .u64 x] 54))
 have P1 := Lib.hid (hp.alloc (.cells #[.int .u64 x] 54))
 have K1 := Lib.hid ((Keep.refl (· = q) w).alloc (.cells #[.int .u64 x] 54))
 unfold ptr
 clear h hp
 go_enter Tryz.func99, Tryz.ntmps99
 go_wp2_with fail
 refine (pLook_any 100 102 _ _ (m.fit x) _ H1.out enRoom enGap (PutTo w O q (m.tailed x) bv) ?_ ?_ ?_).mono ?_
 ·intro w2 b2
  exact pRoom_any x pb w.heap.size w2 (H1.out.below b2) (P1.out.below b2 (by have := P1.out.lt; simpa using this)) (T1.out.below b2 (by simp))
 ·intro hf w2 b2
  have z2 := b2.size
  simp at z2
  unfold PutM.tailed
  rw [hf, if_pos rfl]
  refine (pGap_any (O := fun i => O i ∨ i = w.heap.size) x pb w.heap.size w2 ((H1.out.below b2).mono (fun i hi => .inl hi) (fun hi => by rcases hi with hi | hi; exact nq hi; omega)) (P1.out.below b2 (by have := P1.out.lt; simpa using this)) (T1.out.below b2 (by simp)) (.inl op) (.inr rfl)).mono ?_
  rintro e w5 ⟨rfl, hto⟩
  exact ⟨rfl, hto.from (K1.out.trans (Below.keeps b2)) (fun i hi => hi.imp id (fun e => ⟨by omega, by omega⟩))⟩
 ·intro hf w' t' v1 m' c1 c2 k
  have zk := k.size
  simp at zk
  unfold PutM.tailed
  rw [hf, if_neg (by nofun)]
  refine ⟨PutAt.made (by nofun) m' ⟨v1, _, _, c1.mono (fun i hi => .inr ⟨by simp at hi; omega, hi.2⟩), c2.mono (fun i hi => .inr ⟨by simp at hi; omega, hi.2⟩), Clo.mk2 ?_ (.inl op) ?_ (.inr ⟨Nat.le_refl _, by omega⟩), Clo.mk2 ?_ (.inl op) ?_ (.inr ⟨Nat.le_refl _, by omega⟩)⟩, K1.out.trans k⟩
  ·exact P1.out.keep k (fun e => nq (e ▸ op))
  ·exact T1.out.keep k (by show ¬ w.heap.size = q; omega)
  ·exact P1.out.keep k (fun e => nq (e ▸ op))
  ·exact T1.out.keep k (by show ¬ w.heap.size = q; omega)
 ·rintro e w5 ⟨rfl, hQ⟩
  go_wp2
  go_end0
  exact ⟨rfl, hQ⟩
set_option maxHeartbeats 2000000 in
theorem pNewK_any (v : Int) (pb : Nat) (w : World) (h : PutW w O q m bv) (hp : Blk w pb [ptr q]) (op : O pb) :
  Calls Tryz.prog 68 #[.int .u64 v, ptr pb] w fun e w' => e = .returned (.tuple #[]) ∧ PutTo w O q { m with hd := v, pc := .tl } bv w' := by
 have H := Lib.hid h
 have hlt := h.lt
 have l0 := hp.lt
 have nq : pb ≠ q := fun e => h.nq (e ▸ op)
 have p0 := hp.cell 0
 simp only [List.getElem?_cons_zero, ptr] at p0
 have c12 := Blk.cell h.mch 12
 have f12 := Blk.frozen h.mch 12
 unfold ptr
 clear h hp
 go_enter Tryz.func68, Tryz.ntmps68
 go_wp2_with fail
 refine (pTail_any _ (H.out.put (m' := { m with hd := v }) 12 (.int .u64 v) rfl rfl)).mono ?_
 rintro e w5 ⟨rfl, hto⟩
 go_wp2
 go_end0
 exact ⟨rfl, hto.after (Keep.setCell (M := (· = q)) (Keep.refl _ w) (p := ⟨q, 12, none⟩) (.inl rfl) _)⟩
set_option maxHeartbeats 2000000 in
theorem pWrite_any (a : Int) (w : World) (h : PutW w O q m bv) :
  Calls Tryz.prog 135 #[.pointer (some ⟨q, 0, none⟩), .int .i64 a] w fun e w' => e = .returned (.tuple #[]) ∧ PutTo w O q { m with pc := .wh a } bv w' := by
 have hlt := h.lt
 have H := Lib.hid h
 obtain ⟨b0, b1, b2, b3, b4, b5, b6, b7, b8⟩ := h.bd
 obtain ⟨_, _, c9, c10, _⟩ := put_cells h.mch
 have hr := h.rd
 obtain ⟨s0, sl, sc, rfl⟩ : ∃ s0 sl sc, bv = .slice s0 sl sc := by
  rcases hr with ⟨rfl, _⟩ | ⟨_, _, rfl, _⟩ | ⟨_, _, _, rfl, _⟩
  ·exact ⟨_, _, _, rfl⟩
  ·exact ⟨_, _, _, rfl⟩
  ·exact ⟨_, _, _, rfl⟩
 have hsl := rd_len hr
 have hn : m.c.n = 8 + (sl : Int) := by unfold PutC.n; omega
 have HN := Lib.hid hn
 have W1 : IntKind.i64.wrap (8 + (sl : Int)) = 8 + (sl : Int) := IntWalk.i64_in _ ⟨by omega, by omega⟩
 have W2 : IntKind.i32.wrap (8 + (sl : Int)) = 8 + (sl : Int) := IntWalk.i32_in _ ⟨by omega, by omega⟩
 have W3 : IntKind.i32.wrap (-(8 + (sl : Int))) = -(8 + (sl : Int)) := IntWalk.i32_in _ ⟨by omega, by omega⟩
 obtain ⟨n, hnn⟩ : ∃ n, n = 8 + (sl : Int) := ⟨_, rfl⟩
 rw [← hnn] at W1 W2 W3 HN
 have HNN := Lib.hid hnn.symm
 have hnn' := hnn.symm
 clear h b0 b1 hr hsl hnn hn
 go_enter Tryz.func135, Tryz.ntmps135
 go_upto_region 2 with fail
 obtain ⟨w3, hw3, x0, x1, x2, hs3, bb3⟩ := pbox3 w (.pointer (some ⟨q, 0, none⟩)) (.int .i64 a) (.int .i32 n) 97 3 21
 rw [← hw3]
 have X0 := Lib.hid x0
 have X1 := Lib.hid x1
 have X2 := Lib.hid x2
 have B3 := Lib.hid bb3
 have p0 := x0.cell 0
 have p1 := x1.cell 0
 have p2 := x2.cell 0
 have d9 := (bb3.cell (p := ⟨q, 9, none⟩) hlt).trans c9
 simp only [List.getElem?_cons_zero] at p0 p1 p2
 clear hw3 x0 x1 x2 bb3 c9 c10
 have H3 := Lib.hid (H.out.below B3.out)
 go_region_held3 (fun w' => w'.cell? ⟨w.heap.size, 0, none⟩ = some (.pointer (some ⟨q, 0, none⟩)) ∧ w'.cell? ⟨w.heap.size + 1, 0, none⟩ = some (.int .i64 a) ∧ w'.cell? ⟨w.heap.size + 1 + 1, 0, none⟩ = some (.int .i32 n) ∧ w'.cell? ⟨q, 9, none⟩ = some (.int .i32 m.c.typ)) (first | go_keep | trivial)
  (first
   | (go_at_call 78; refine (record_any (-n) m.c.typ _).mono ?_; rintro e w2 ⟨rfl, rfl⟩)
   | (go_at_call 74; refine (cStore_any q _ _ _ a 8 _ _ _ _ (H3.out.below (by go_grown)).mch).mono ?_; rintro e w5 ⟨rfl, t5, m5, l5, k5⟩; have hd0 := fun o => k5.cell (b := w.heap.size) o (by simp; omega) (by show ¬ w.heap.size = q; omega); have hd1 := fun o => k5.cell (b := w.heap.size + 1) o (by simp; omega) (by show ¬ w.heap.size + 1 = q; omega); have hd2 := fun o => k5.cell (b := w.heap.size + 1 + 1) o (by simp; omega) (by show ¬ w.heap.size + 1 + 1 = q; omega); have hd3 := (put_cells m5).2.2.1))
 all_goals
  clear hd0 hd1 hd2 hd3
  have z5 := k5.size
  simp at z5
  go_wp2
  go_end0
  refine ⟨rfl, PutAt.made (by nofun) (by rw [← HN.out] at m5; exact m5) ⟨_, l5.mono (fun i hi => .inr ⟨by have := hi.1; simp at this; omega, hi.2⟩), Clo.mk3 ?_ (.inr ⟨by omega, by omega⟩) ?_ (.inr ⟨by omega, by omega⟩) ?_ (.inr ⟨by omega, by omega⟩)⟩, ((Below.keeps B3.out).drew).trans k5⟩
  ·exact (X0.out.drew).keep k5 (by show ¬ w.heap.size = q; omega)
  ·exact (X1.out.drew).keep k5 (by show ¬ w.heap.size + 1 = q; omega)
  ·rw [HN.out]
   exact (X2.out.drew).keep k5 (by show ¬ w.heap.size + 1 + 1 = q; omega)
set_option maxHeartbeats 2000000 in
theorem pClaimK_any (d : Bool) (t pad : Int) (pb tb gb : Nat) (w : World) (h : PutW w O q m bv) (hp : Blk w pb [ptr q]) (ht : Blk w tb [.int .u64 t]) (hg : Blk w gb [.int .i64 pad]) (op : O pb) (ot : O tb) (og : O gb) (hpad : pad = 0 ∨ pad = m.c.s - t % m.c.s) :
  Calls Tryz.prog 134 #[.bool d, ptr pb, ptr tb, ptr gb] w fun e w' => e = .returned (.tuple #[]) ∧ PutTo w O q (if d then m.claimed t pad else { m with pc := .tl }) bv w' := by
 have H := Lib.hid h
 obtain ⟨b0, b1, b2, b3, b4, b5, b6, b7, b8⟩ := h.bd
 obtain ⟨c7, c8, c9, c10, c11, c12, c13, c14, c15⟩ := put_cells h.mch
 have f13 := Blk.frozen h.mch 13
 have f14 := Blk.frozen h.mch 14
 have hlt := h.lt
 have l0 := hp.lt
 have l1 := ht.lt
 have l2 := hg.lt
 have n0 : pb ≠ q := fun e => h.nq (e ▸ op)
 have n1 : tb ≠ q := fun e => h.nq (e ▸ ot)
 have n2 : gb ≠ q := fun e => h.nq (e ▸ og)
 have P0 := Lib.hid hp
 have T0 := Lib.hid ht
 have G0 := Lib.hid hg
 have p0 := hp.cell 0
 have t0 := ht.cell 0
 have g0 := hg.cell 0
 simp only [List.getElem?_cons_zero, ptr] at p0 t0 g0
 have m1 := Int.emod_nonneg t (show m.c.s ≠ 0 by omega)
 have m2 := Int.emod_lt_of_pos t (show 0 < m.c.s by omega)
 have W1 : IntKind.i64.wrap (m.c.b + t % m.c.s) = m.c.b + t % m.c.s := IntWalk.i64_in _ ⟨by omega, by omega⟩
 have W2 : IntKind.i32.wrap pad = pad := IntWalk.i32_in _ ⟨by omega, by omega⟩
 unfold ptr
 clear h hp ht hg b0 b1
 cases d with
 | false =>
  simp only [Bool.false_eq_true, if_false]
  go_enter Tryz.func134, Tryz.ntmps134
  go_wp2_with fail
  refine (pTail_any _ H.out).mono ?_
  rintro e w5 ⟨rfl, hto⟩
  go_wp2
  exact bodyPost_ret (v := .tuple #[]) (results_none rfl _ _ _) rfl ⟨rfl, hto⟩
 | true =>
  simp only [if_true]
  go_enter Tryz.func134, Tryz.ntmps134
  go_upto_region 2 with fail
  go_region
  have HV : wrap64 (wrap64 t + pad) = s64 (s64 t + pad) := by unfold wrap64 s64; rfl
  obtain ⟨w1, hw1⟩ : ∃ w1, w1 = ((w.setCell ⟨q, 13, none⟩ (.int .i64 (wrap64 (wrap64 t + pad)))).setCell ⟨q, 14, none⟩ (.bool true)).drew := ⟨_, rfl⟩
  rw [← hw1]
  have k1 : Keep (· = q) w w1 := by
   rw [hw1]
   exact (Keep.setCell (M := (· = q)) (Keep.setCell (M := (· = q)) (Keep.refl _ w) (p := ⟨q, 13, none⟩) (.inl rfl) _) (p := ⟨q, 14, none⟩) (.inl rfl) _).drew
  have h1 : PutW w1 O q { m with pos := s64 (s64 t + pad), cl := true } bv := by
   rw [hw1, HV]
   exact ((H.out.put (m' := { m with pos := s64 (s64 t + pad) }) 13 _ rfl rfl).put (m' := { m with pos := s64 (s64 t + pad), cl := true }) 14 _ rfl rfl).drew
  have H1 := Lib.hid h1
  have K1 := Lib.hid k1
  have d0 := (k1.cell (b := pb) 0 l0 n0).trans p0
  have d1 := (k1.cell (b := tb) 0 l1 n1).trans t0
  have d2 := (k1.cell (b := gb) 0 l2 n2).trans g0
  have P1 := Lib.hid (P0.out.keep k1 n0)
  have y0 := P1.out.lt
  obtain ⟨e7, _⟩ := put_cells h1.mch
  have hltq := h1.lt
  dsimp only at e7
  clear hw1 k1 h1 p0 t0 g0 c7 c8 c9 c10 c11 c12 c13 c14 c15 f13 f14 HV
  go_upto_region 3 with fail
  go_cut [5] from 20 to 28 (fun a wx => a = .int .i64 (m.c.b + t % m.c.s) ∧ ∃ n, wx = w1.drewN n)
  case first =>
   go_quiet ((go_at_call 103; exact quietR (pPlace_any (m := { m with pos := s64 (s64 t + pad), cl := true }) t _ (H1.out.below (bel_drewN _ (Below.refl _ _))))))
   go_wp2_with fail
   go_meet
   exact ⟨rfl, _, rfl⟩
  case rest =>
   obtain ⟨rfl, nn, rfl⟩ := hcut
   by_cases hp0 : pad = 0
   ·have hC : m.claimed t pad = { ({ m with pos := s64 (s64 t + pad), cl := true } : PutM) with pc := .wh (m.c.b + t % m.c.s) } := by unfold PutM.claimed; rw [if_pos hp0]
    have HC := Lib.hid hC
    clear hC
    go_wp2_with fail
    refine (pWrite_any (m := { m with pos := s64 (s64 t + pad), cl := true }) (m.c.b + t % m.c.s) _ (H1.out.below (bel_drewN _ (Below.refl _ _)))).mono ?_
    rintro e w5 ⟨rfl, hto⟩
    go_wp2
    refine bodyPost_ret (v := .tuple #[]) (results_none rfl _ _ _) rfl ⟨rfl, ?_⟩
    rw [HC.out]
    exact hto.after (K1.out.drewN _)
   ·have hC : m.claimed t pad = { ({ m with pos := s64 (s64 t + pad), cl := true } : PutM) with pc := .pd t } := by unfold PutM.claimed; rw [if_neg hp0]
    have HC := Lib.hid hC
    clear hC
    have hpp : pad = m.c.s - t % m.c.s := by omega
    have HP := Lib.hid hpp
    clear hpp hpad
    go_upto_region 6 with fail
    go_region_held3 (fun w' => w'.cell? ⟨pb, 0, none⟩ = some (.pointer (some ⟨q, 0, none⟩)) ∧ w'.cell? ⟨gb, 0, none⟩ = some (.int .i64 pad)) (first | go_keep | trivial)
     (first
      | (go_at_call 78; refine (record_any pad (-1) _).mono ?_; rintro e w2 ⟨rfl, rfl⟩)
      | (go_at_call 74; refine (cStore_any q _ _ _ (m.c.b + t % m.c.s) 8 _ _ _ _ (H1.out.below (bel_drewN _ (Below.refl _ _))).mch).mono ?_; rintro e w5 ⟨rfl, t5, m5, l5, k5⟩; have hd0 := fun o => k5.cell (b := pb) o (by simpa using y0) n0; have hd1 := fun o => k5.cell (b := gb) o (by have := K1.out.size; simp; omega) n2))
    all_goals
     clear hd0 hd1
     have z5 := k5.size
     simp at z5
     go_wp2
     go_end0
     refine ⟨rfl, ?_⟩
     rw [HC.out]
     refine ⟨PutAt.made (by nofun) (by rw [congrArg (recS · (-1)) HP.out] at m5; exact m5) ⟨_, l5.mono (fun i hi => .inr ⟨by have := hi.1; have h9 := K1.out.size; try simp at this; omega, hi.2⟩), Clo.mk1 ?_ (.inl op)⟩, ((K1.out.drewN _).drew).trans k5⟩
     exact ((P1.out.drewN _).drew).keep k5 n0
set_option maxHeartbeats 2000000 in
theorem pClaimP_any (pb : Nat) (w : World) (h : PutW w O q m bv) (hp : Blk w pb [ptr q]) (n0 : pb ≠ q) :
  Calls Tryz.prog 136 #[ptr pb] w fun e w' => e = .returned (.tuple #[]) ∧ PutTo w O q { m with pc := .wh m.c.b } bv w' := by
 have H := Lib.hid h
 have hlt := h.lt
 have l0 := hp.lt
 obtain ⟨c7, _⟩ := put_cells h.mch
 have p0 := hp.cell 0
 simp only [List.getElem?_cons_zero, ptr] at p0
 unfold ptr
 clear h hp
 go_enter Tryz.func136, Tryz.ntmps136
 go_wp2_with fail
 go_region_held3 (fun w' => w'.cell? ⟨pb, 0, none⟩ = some (.pointer (some ⟨q, 0, none⟩)) ∧ w'.cell? ⟨q, 7, none⟩ = some (.int .i64 m.c.b)) (first | go_keep | trivial)
  (first
   | (go_at_call 135; refine (pWrite_any m.c.b _ H.out.drew).mono ?_; rintro e w5 ⟨rfl, hto⟩; have hd0 := fun o => hto.2.cell (b := pb) o (by simpa using l0) n0; obtain ⟨cm, tm, hmm⟩ := hto.1.mch; have hd7 := (put_cells hmm).1))
 all_goals
  clear hd0 hd7 hmm
  go_wp2
  go_end0
  exact ⟨rfl, hto.after (Keep.refl _ w).drew⟩
set_option maxHeartbeats 2000000 in
theorem pWrite1_any (a : Int) (pb ab nb : Nat) (w : World) (h : PutW w O q m bv) (hp : Blk w pb [ptr q]) (ha : Blk w ab [.int .i64 a]) (hn : Blk w nb [.int .i32 m.c.n]) (op : O pb) (oa : O ab) (on : O nb) :
  Calls Tryz.prog 159 #[ptr pb, ptr ab, ptr nb] w fun e w' => e = .returned (.tuple #[]) ∧ PutTo w O q { m with pc := .fi a } bv w' := by
 have H := Lib.hid h
 obtain ⟨b0, b1, b2, b3, b4, b5, b6, b7, b8⟩ := h.bd
 have hlt := h.lt
 have l0 := hp.lt
 have l1 := ha.lt
 have l2 := hn.lt
 have n0 : pb ≠ q := fun e => h.nq (e ▸ op)
 have n1 : ab ≠ q := fun e => h.nq (e ▸ oa)
 have n2 : nb ≠ q := fun e => h.nq (e ▸ on)
 have P0 := Lib.hid hp
 have p0 := hp.cell 0
 have t0 := ha.cell 0
 have g0 := hn.cell 0
 simp only [List.getElem?_cons_zero, ptr] at p0 t0 g0
 have hN : 8 ≤ m.c.n ∧ m.c.n ≤ 1040 := by unfold PutC.n; omega
 have W1 : IntKind.u64.wrap m.c.n = m.c.n := IntWalk.u64_in _ ⟨by omega, by omega⟩
 unfold ptr
 clear h hp ha hn b0 b1
 go_enter Tryz.func159, Tryz.ntmps159
 go_wp2_with fail
 go_region_held3 (fun w' => w'.cell? ⟨pb, 0, none⟩ = some (.pointer (some ⟨q, 0, none⟩)) ∧ w'.cell? ⟨ab, 0, none⟩ = some (.int .i64 a) ∧ w'.cell? ⟨nb, 0, none⟩ = some (.int .i32 m.c.n)) (first | go_keep | trivial)
  (first
   | (go_at_call 74; refine (cStore_any q _ _ _ a 4 _ _ _ _ H.out.drew.mch).mono ?_; rintro e w5 ⟨rfl, t5, m5, l5, k5⟩; have hd0 := fun o => k5.cell (b := pb) o (by simpa using l0) n0; have hd1 := fun o => k5.cell (b := ab) o (by simpa using l1) n1; have hd2 := fun o => k5.cell (b := nb) o (by simpa using l2) n2))
 all_goals
  clear hd0 hd1 hd2
  have z5 := k5.size
  simp at z5
  go_wp2
  go_end0
  refine ⟨rfl, PutAt.made (by nofun) m5 ⟨_, l5.mono (fun i hi => .inr ⟨by have := hi.1; try simp at this; omega, hi.2⟩), Clo.mk1 ?_ (.inl op)⟩, ((Keep.refl _ w).drew).trans k5⟩
  exact (P0.out.drew).keep k5 n0
set_option maxHeartbeats 1000000 in
theorem pWrite2_any (pb : Nat) (w : World) (h : PutW w O q m bv) (hp : Blk w pb [ptr q]) :
  Calls Tryz.prog 160 #[ptr pb] w fun e w' => e = .returned (.tuple #[]) ∧ PutTo w O q { m with pc := .done, e := 0 } bv w' := by
 have H := Lib.hid h
 have hlt := h.lt
 have l0 := hp.lt
 have p0 := hp.cell 0
 simp only [List.getElem?_cons_zero, ptr] at p0
 unfold ptr
 clear h hp
 go_enter Tryz.func160, Tryz.ntmps160
 go_wp2_with fail
 refine (pStop_any 0 _ H.out).mono ?_
 rintro e w5 ⟨rfl, h5, k5⟩
 go_wp2
 go_end0
 exact ⟨rfl, PutAt.made (by nofun) h5.mch rfl, k5⟩
set_option maxHeartbeats 2000000 in
theorem pWriteK_any (a : Int) (pb ab nb : Nat) (w : World) (h : PutW w O q m bv) (hp : Blk w pb [ptr q]) (ha : Blk w ab [.int .i64 a]) (hn : Blk w nb [.int .i32 m.c.n]) (op : O pb) (oa : O ab) (on : O nb) (ha0 : 0 ≤ a) (ha1 : a ≤ 131072) :
  Calls Tryz.prog 158 #[ptr pb, ptr ab, ptr nb] w fun e w' => e = .returned (.tuple #[]) ∧ PutTo w O q (({ m with pc := .wh a } : PutM).step anZ) bv w' := by
 have H := Lib.hid h
 obtain ⟨b0, b1, b2, b3, b4, b5, b6, b7, b8⟩ := h.bd
 have hlt := h.lt
 have l0 := hp.lt
 have l1 := ha.lt
 have l2 := hn.lt
 have nq := h.nq
 have n0 : pb ≠ q := fun e => h.nq (e ▸ op)
 have n1 : ab ≠ q := fun e => h.nq (e ▸ oa)
 have n2 : nb ≠ q := fun e => h.nq (e ▸ on)
 have P0 := Lib.hid hp
 have A0 := Lib.hid ha
 have N0 := Lib.hid hn
 have p0 := hp.cell 0
 have t0 := ha.cell 0
 have c10 := (put_cells h.mch).2.2.2.1
 simp only [List.getElem?_cons_zero, ptr] at p0 t0
 have W1 : IntKind.i64.wrap (a + 8) = a + 8 := IntWalk.i64_in _ ⟨by omega, by omega⟩
 have hst : ({ m with pc := .wh a } : PutM).step anZ = if m.c.d.length = 0 then { m with pc := .fi a } else { m with pc := .wb a (a + 8) m.c.d } := rfl
 have HST := Lib.hid hst
 have hrd := h.rd
 have hob := h.ob
 unfold ptr
 clear h hp ha hn b0 b1 hst
 by_cases hz : m.c.d.length = 0
 ·obtain ⟨s0, sc, rfl⟩ : ∃ s0 sc, bv = .slice s0 0 sc := by
   rcases hrd with ⟨rfl, _⟩ | ⟨_, _, rfl, _⟩ | ⟨_, _, _, rfl, _⟩
   ·exact ⟨_, _, rfl⟩
   ·exact ⟨_, _, rfl⟩
   ·rw [hz]
    exact ⟨_, _, rfl⟩
  have hz' := Lib.hid hz
  clear hz hrd
  go_enter Tryz.func158, Tryz.ntmps158
  go_wp2_with fail
  go_region_held3 (fun w' => w'.cell? ⟨pb, 0, none⟩ = some (.pointer (some ⟨q, 0, none⟩)) ∧ w'.cell? ⟨ab, 0, none⟩ = some (.int .i64 a) ∧ w'.cell? ⟨q, 10, none⟩ = some (.slice s0 0 sc)) (first | go_keep | trivial)
   (first
    | (go_at_call 109; refine (cIn_end q (a + 8) s0 sc 159 _ _ (enWrite1 _) (PutTo w O q { m with pc := .fi a } (.slice s0 0 sc)) (fun w2 b2 => (pWrite1_any a pb ab nb w2 ((H.out.drew).below b2) ((P0.out.drew).below b2 (by simpa using l0)) ((A0.out.drew).below b2 (by simpa using l1)) ((N0.out.drew).below b2 (by simpa using l2)) op oa on).mono (fun e w' ⟨h1, h2⟩ => ⟨h1, h2.from (((Keep.refl _ w).drew).trans (Below.keeps b2)) (fun i hi => .inl hi)⟩))).mono ?_; rintro e w5 ⟨rfl, hto⟩; have hd0 := fun o => hto.2.cell (b := pb) o (by simpa using l0) n0; have hd1 := fun o => hto.2.cell (b := ab) o (by simpa using l1) n1; obtain ⟨cm, tm, hmm⟩ := hto.1.mch; have hd7 := (put_cells hmm).2.2.2.1))
  all_goals
   clear hd0 hd1 hd7 hmm
   go_wp2
   go_end0
   refine ⟨rfl, ?_⟩
   rw [HST.out, if_pos hz'.out]
   exact hto
 ·rcases hrd with ⟨_, e⟩ | ⟨_, _, _, e, _⟩ | ⟨b, off, cap, rfl, hcap, hcm, hcell⟩
  ·rw [e] at hz; exact absurd rfl hz
  ·rw [e] at hz; exact absurd rfl hz
  have hbo : O b := hob b rfl
  have hbq : b ≠ q := fun e => nq (e ▸ hbo)
  have hz' := Lib.hid hz
  have HC := Lib.hid hcell
  have lb := World.block_lt_of_cell? w _ (hcell 0 (by omega))
  simp only at lb
  clear hz hcell
  go_enter Tryz.func158, Tryz.ntmps158
  go_wp2_with fail
  go_region_held3 (fun w' => w'.cell? ⟨pb, 0, none⟩ = some (.pointer (some ⟨q, 0, none⟩)) ∧ w'.cell? ⟨ab, 0, none⟩ = some (.int .i64 a) ∧ w'.cell? ⟨q, 10, none⟩ = some (.slice (some ⟨b, off, none⟩) m.c.d.length cap)) (first | go_keep | trivial)
   (first
    | (go_at_call 109; refine (cIn_st q _ _ _ (a + 8) b off cap m.c.d 159 _ _ O H.out.drew.mch hz'.out (by omega) hcap hcm hbo hbq (fun i hi => HC.out i hi)).mono ?_; rintro e w5 ⟨rfl, hin, k5⟩; have hd0 := fun o => k5.cell (b := pb) o (by simpa using l0) n0; have hd1 := fun o => k5.cell (b := ab) o (by simpa using l1) n1; have hd7 : w5.cell? ⟨q, 10, none⟩ = some (.slice (some ⟨b, off, none⟩) m.c.d.length cap) := by obtain ⟨_, _, _, _, _, hmm, _⟩ := hin; exact (put_cells hmm).2.2.2.1))
  all_goals
   clear hd0 hd1 hd7
   have z5 := k5.size
   simp at z5
   go_wp2
   go_end0
   refine ⟨rfl, ?_⟩
   rw [HST.out, if_neg hz'.out]
   refine ⟨⟨_, hin.mono (fun i hi => hi.imp id (fun h9 => ⟨by have := h9.1; try simp at this; omega, h9.2⟩)), Clo.mk3 ?_ (.inl op) ?_ (.inl oa) ?_ (.inl on)⟩, ((Keep.refl _ w).drew).trans k5⟩
   ·exact (P0.out.drew).keep k5 n0
   ·exact (A0.out.drew).keep k5 n1
   ·exact (N0.out.drew).keep k5 n2
theorem recS_bdP (a b : Int) : 0 ≤ recS a b ∧ recS a b ≤ 18446744073709551615 := by unfold recS; omega
def inU (x : Int) : Prop := 0 ≤ x ∧ x ≤ 18446744073709551615
def PutM.pcOk (m : PutM) : Prop := match m.pc with
 | .done => True
 | .hd0 => True
 | .tl => True
 | .rm t => inU t
 | .rs t v => inU t ∧ inU v
 | .ph t => inU t
 | .ps t v => inU t ∧ inU v
 | .cs t pad => inU t ∧ (pad = 0 ∨ pad = m.c.s - t % m.c.s)
 | .pd t => inU t
 | .wh a => 0 ≤ a ∧ a ≤ 131072
 | .wb a p l => (0 ≤ a ∧ a ≤ 131072) ∧ (0 ≤ p ∧ p + l.length ≤ 200000) ∧ l.length ≤ 1024 ∧ IsB l ∧ l.length ≠ 0
 | .fi a => 0 ≤ a ∧ a ≤ 131072
structure PutM.fine (m : PutM) : Prop where
 b : IsB m.c.d
 ok : m.live = true → m.c.ok = true
 hd : inU m.hd
 pc : m.pcOk
theorem PutC.bd {c : PutC} (h : c.ok = true) : 64 ≤ c.s ∧ c.s ≤ 8192 ∧ 0 ≤ c.b ∧ c.b ≤ 131040 - c.s ∧ 8 ≤ c.nd ∧ c.nd ≤ 1040 ∧ c.d.length ≤ 1024 := by
 obtain ⟨h1, h2, h3⟩ := PutC.ok_bd h
 obtain ⟨a1, a2, a3, a4, a5, a6⟩ := rgOk_bd h1
 obtain ⟨b1, b2, b3⟩ := PutC.nd_bd h
 omega
theorem PutM.fine.gapped (h : m.fine) (hok : m.c.ok = true) {t : Int} (ht : inU t) : (m.gapped t).fine := by
 unfold PutM.gapped
 split
 ·exact ⟨h.b, fun _ => hok, h.hd, ht, .inl rfl⟩
 split
 ·exact ⟨h.b, fun _ => hok, h.hd, ht, .inr rfl⟩
 ·exact ⟨h.b, fun _ => hok, h.hd, ht⟩
theorem PutM.fine.step (h : m.fine) (hl : m.live = true) {x : AN} (hx : inU x.v) : (m.step x).fine := by
 have hok := h.ok hl
 have hp := h.pc
 obtain ⟨b1, b2, b3, b4, b5, b6, b7⟩ := PutC.bd hok
 obtain ⟨c, pc, hd, pos, cl, e⟩ := m
 dsimp only at hok b1 b2 b3 b4 b5 b6 b7
 cases pc with
 | done => exact h
 | hd0 => exact ⟨h.b, fun _ => hok, hx, trivial⟩
 | tl =>
  simp only [PutM.step]
  split
  ·exact h.gapped hok hx
  ·exact ⟨h.b, fun _ => hok, h.hd, hx⟩
 | rm t =>
  simp only [PutM.step]
  split
  ·exact ⟨h.b, fun _ => hok, hx, hp, hx⟩
  ·exact ⟨h.b, fun _ => hok, hx, trivial⟩
 | rs t v => exact h.gapped hok hp.1
 | ph t =>
  simp only [PutM.step]
  split
  ·exact ⟨h.b, fun _ => hok, hx, hp, hx⟩
  ·exact ⟨h.b, fun _ => hok, hx, trivial⟩
 | ps t v => exact ⟨h.b, fun _ => hok, h.hd, hp.1, .inr rfl⟩
 | cs t pad =>
  have m1 := Int.emod_nonneg t (show c.s ≠ 0 by omega)
  have m2 := Int.emod_lt_of_pos t (show 0 < c.s by omega)
  simp only [PutM.step]
  split
  ·split
   ·exact ⟨h.b, fun _ => hok, h.hd, show 0 ≤ _ ∧ _ ≤ _ by omega⟩
   ·exact ⟨h.b, fun _ => hok, h.hd, hp.1⟩
  ·exact ⟨h.b, fun _ => hok, h.hd, trivial⟩
 | pd t => exact ⟨h.b, fun _ => hok, h.hd, show 0 ≤ c.b ∧ c.b ≤ _ by omega⟩
 | wh a =>
  have hp' : 0 ≤ a ∧ a ≤ 131072 := hp
  simp only [PutM.step]
  split
  ·exact ⟨h.b, fun _ => hok, h.hd, hp'⟩
  ·exact ⟨h.b, fun _ => hok, h.hd, hp', by omega, by omega, h.b, by assumption⟩
 | wb a p l =>
  obtain ⟨q1, q2, q3, q4, q5⟩ := hp
  simp only [PutM.step]
  split
  ·exact ⟨h.b, fun _ => hok, h.hd, q1⟩
  ·refine ⟨h.b, fun _ => hok, h.hd, q1, ?_, ?_, q4.drop 8, ?_⟩ <;> simp <;> omega
 | fi a => exact ⟨h.b, fun _ => hok, h.hd, trivial⟩
theorem PutM.fine.wf (h : m.fine) : m.want.wf := by
 have hp := h.pc
 by_cases hl : m.live = true
 ·have hok := h.ok hl
  obtain ⟨b1, b2, b3, b4, b5, b6, b7⟩ := PutC.bd hok
  have u0 : inU 0 := ⟨by omega, by omega⟩
  have ub := fun x => u64_bdP x
  have ur := fun x y => recS_bdP x y
  obtain ⟨c, pc, hd, pos, cl, e⟩ := m
  dsimp only at hok b1 b2 b3 b4 b5 b6 b7
  cases pc with
  | done => cases hl
  | hd0 => exact ⟨IsB.nil, by simp [PutM.want], u0.1, u0.2, u0.1, u0.2⟩
  | tl => exact ⟨IsB.nil, by simp [PutM.want], u0.1, u0.2, u0.1, u0.2⟩
  | rm t => exact ⟨IsB.nil, by simp [PutM.want], u0.1, u0.2, u0.1, u0.2⟩
  | rs t v => exact ⟨IsB.nil, by simp [PutM.want], hp.2.1, hp.2.2, u0.1, u0.2⟩
  | ph t => exact ⟨IsB.nil, by simp [PutM.want], u0.1, u0.2, u0.1, u0.2⟩
  | ps t v => exact ⟨IsB.nil, by simp [PutM.want], hp.2.1, hp.2.2, u0.1, u0.2⟩
  | cs t pad => exact ⟨IsB.nil, by simp [PutM.want], hp.1.1, hp.1.2, (ub _).1, (ub _).2⟩
  | pd t => exact ⟨IsB.nil, by simp [PutM.want], (ur _ _).1, (ur _ _).2, u0.1, u0.2⟩
  | wh a => exact ⟨IsB.nil, by simp [PutM.want], (ur _ _).1, (ur _ _).2, u0.1, u0.2⟩
  | wb a p l => exact ⟨hp.2.2.2.1.take 8, by simp [PutM.want]; omega, u0.1, u0.2, u0.1, u0.2⟩
  | fi a =>
   have : 8 ≤ c.n ∧ c.n ≤ 1040 := by unfold PutC.n; omega
   exact ⟨IsB.nil, by simp [PutM.want], show 0 ≤ c.n by omega, show c.n ≤ _ by omega, u0.1, u0.2⟩
 ·have e : m.want = aaZ := by
   unfold PutM.live at hl
   unfold PutM.want
   split at hl
   ·rename_i h; rw [h]
   ·exact absurd rfl hl
  rw [e]
  exact ⟨IsB.nil, by simp [aaZ], by decide, by decide, by decide, by decide⟩
structure PutI (w : World) (O : Nat → Prop) (q : Nat) (m : PutM) (bv : Value) : Prop where
 at_ : PutAt w O q m bv
 rd : RdB w bv m.c.d
 ob : ∀ i, bv.ownBlock = some i → O i
 nq : ¬ O q
 fine : m.fine
variable {v : Value} {l : List Int}
theorem RdB.keepP {w w' : World} {K : Nat → Prop} (h : RdB w v l) (k : Keep K w w') (hd : ∀ i, v.ownBlock = some i → ¬ K i) : RdB w' v l := by
 rcases h with h | h | ⟨b, off, cap, e1, e2, e3, e4⟩
 ·exact .inl h
 ·exact .inr (.inl h)
 ·refine .inr <| .inr ⟨b, off, cap, e1, e2, e3, fun i hi => ?_⟩
  have hc := e4 i hi
  exact (k.cell _ (World.block_lt_of_cell? w _ hc) (hd b (by rw [e1]; rfl))).trans hc
theorem PutI.w {w w1 : World} (h : PutI w O q m bv) (hl : m.live = true) (m1 : Mch w1 q accZ .nilFunc (m.rest bv)) (k1 : Keep (· = q) w w1) : PutW w1 O q m bv :=
 ⟨m1, h.rd.keepP k1 (fun i hi e => h.nq (e ▸ h.ob i hi)), h.ob, h.nq, h.fine.ok hl⟩
set_option maxHeartbeats 2000000 in
theorem pcTake_any (v : Int) (d : Bool) (bs : List Int) (s0 : Option Addr) (sl sc : Nat) (w : World) (h : PutI w O q m bv) (hl : m.live = true) :
  Calls Tryz.prog 192 #[.pointer (some ⟨q, 0, none⟩), .agg #[.int .u64 v, .bool d, .slice s0 sl sc]] w fun e w' => e = .returned (.tuple #[]) ∧ PutTo w O q (m.step ⟨v, d, bs⟩) bv w' := by
 have hW := fun w1 => h.w (w1 := w1) hl
 have nq := h.nq
 have hA := h.at_
 have hF := h.fine.pc
 have hok := h.fine.ok hl
 obtain ⟨b1, b2, b3, b4, b5, b6, b7⟩ := PutC.bd hok
 clear h
 have nqb : ∀ b, O b → b ≠ q := fun b hb e => nq (e ▸ hb)
 obtain ⟨c, pc, hd, pos, cl, e⟩ := m
 dsimp only at hok b1 b2 b3 b4 b5 b6 b7
 cases pc with
 | done => cases hl
 | hd0 =>
  obtain ⟨t, hm, v1, c1, c2⟩ := hA
  obtain ⟨pb, rfl, hp, op⟩ := c2.c1
  refine takeLoad O q _ t _ _ _ v d s0 sl sc w hm c1 nq enNewK _ (fun w1 m1 k1 => ?_)
  refine (pNewK_any v pb w1 (hW w1 m1 k1) (hp.keep k1 (nqb pb op)) op).mono ?_
  rintro e w' ⟨rfl, hto⟩
  exact ⟨rfl, hto.after k1⟩
 | tl =>
  obtain ⟨t, hm, v1, c1, c2⟩ := hA
  obtain ⟨pb, rfl, hp, op⟩ := c2.c1
  refine takeLoad O q _ t _ _ _ v d s0 sl sc w hm c1 nq enTailK _ (fun w1 m1 k1 => ?_)
  refine (pTailK_any v pb w1 (hW w1 m1 k1) (hp.keep k1 (nqb pb op)) op).mono ?_
  rintro e w' ⟨rfl, hto⟩
  refine ⟨rfl, ?_⟩
  have e2 : PutM.step ⟨c, .tl, hd, pos, cl, e⟩ ⟨v, d, bs⟩ = PutM.tailed ⟨c, .tl, hd, pos, cl, e⟩ v := rfl
  rw [e2]
  exact hto.after k1
 | rm x =>
  obtain ⟨t, hm, v1, ve, vt, c1, c2, c3, c4⟩ := hA
  obtain ⟨pb, eb, tb, rfl, ⟨hp, op⟩, ⟨he, oe⟩, ht, ot⟩ := c2.c3
  obtain ⟨b1', b2', rfl, ⟨he1, oe1⟩, he2, oe2⟩ := c3.c2
  obtain ⟨bt, ⟨rfl, ht4⟩⟩ := c4
  refine takeLoad O q _ t _ _ _ v d s0 sl sc w hm c1 nq enLookK _ (fun w1 m1 k1 => ?_)
  have hW1 := hW w1 m1 k1
  refine (pLookK_any v 100 102 _ _ (({ (⟨c, .rm x, hd, pos, cl, e⟩ : PutM) with hd := v } : PutM).fit x) pb eb tb w1 hW1 enRoom (hp.keep k1 (nqb pb op)) (he.keep k1 (nqb eb oe)) (ht.keep k1 (nqb tb ot)) ⟨nqb _ op, nqb _ oe, nqb _ ot⟩ (fun w2 h2 k2 => pRoom_any x b1' b2' w2 h2 (he1.keep (k1.trans k2) (nqb _ oe1)) (he2.keep (k1.trans k2) (nqb _ oe2)))).mono ?_
  rintro e2 w' ⟨rfl, k2, hy, hn⟩
  refine ⟨rfl, ?_⟩
  have z1 := k1.size
  by_cases hf : (({ (⟨c, .rm x, hd, pos, cl, e⟩ : PutM) with hd := v } : PutM).fit x) = true
  ·obtain ⟨t', m', c'⟩ := hy hf
   have e3 : PutM.step ⟨c, .rm x, hd, pos, cl, e⟩ ⟨v, d, bs⟩ = ⟨c, .rs x v, v, pos, cl, e⟩ := if_pos hf
   rw [e3]
   refine ⟨PutAt.made (by nofun) m' ⟨_, c'.mono (fun i hi => .inr ⟨by omega, hi.2⟩), ?_⟩, k1.trans k2⟩
   exact (Clo.keep (f := 102) (xs := [ptr q, .int .u64 x]) ⟨bt, rfl, ht4⟩ (k1.trans k2) (fun i hi => nqb i hi)).mono (fun i hi => .inl hi)
  ·have e3 : PutM.step ⟨c, .rm x, hd, pos, cl, e⟩ ⟨v, d, bs⟩ = ⟨c, .done, v, pos, cl, 5⟩ := if_neg hf
   rw [e3]
   exact ⟨PutAt.made (by nofun) (hn (by simpa using hf)) rfl, k1.trans k2⟩
 | rs x y =>
  obtain ⟨t, hm, vt, c1, c2⟩ := hA
  obtain ⟨pb, tb, rfl, ⟨hp, op⟩, ht, ot⟩ := c2.c2
  refine takeStore O q _ t _ _ _ v d s0 sl sc w hm c1 nq enGap _ (fun w1 m1 k1 => ?_)
  refine (pGap_any x pb tb w1 (hW w1 m1 k1) (hp.keep k1 (nqb pb op)) (ht.keep k1 (nqb tb ot)) op ot).mono ?_
  rintro e2 w' ⟨rfl, hto⟩
  exact ⟨rfl, hto.after k1⟩
 | ph x =>
  obtain ⟨t, hm, v1, ve, vt, c1, c2, c3, c4⟩ := hA
  obtain ⟨pb, eb, tb, rfl, ⟨hp, op⟩, ⟨he, oe⟩, ht, ot⟩ := c2.c3
  obtain ⟨b1', rfl, he1, oe1⟩ := c3.c1
  obtain ⟨bt, ⟨rfl, ht4⟩⟩ := c4
  refine takeLoad O q _ t _ _ _ v d s0 sl sc w hm c1 nq enLookK _ (fun w1 m1 k1 => ?_)
  have hW1 := hW w1 m1 k1
  refine (pLookK_any v 105 106 _ _ (decide (c.nd ≤ v % c.s)) pb eb tb w1 hW1 enRoom2 (hp.keep k1 (nqb pb op)) (he.keep k1 (nqb eb oe)) (ht.keep k1 (nqb tb ot)) ⟨nqb _ op, nqb _ oe, nqb _ ot⟩ (fun w2 h2 k2 => pRoom2_any b1' w2 h2 (he1.keep (k1.trans k2) (nqb _ oe1)))).mono ?_
  rintro e2 w' ⟨rfl, k2, hy, hn⟩
  refine ⟨rfl, ?_⟩
  have z1 := k1.size
  by_cases hf : c.nd ≤ v % c.s
  ·obtain ⟨t', m', c'⟩ := hy (decide_eq_true hf)
   have e3 : PutM.step ⟨c, .ph x, hd, pos, cl, e⟩ ⟨v, d, bs⟩ = ⟨c, .ps x v, v, pos, cl, e⟩ := if_pos hf
   rw [e3]
   refine ⟨PutAt.made (by nofun) m' ⟨_, c'.mono (fun i hi => .inr ⟨by omega, hi.2⟩), ?_⟩, k1.trans k2⟩
   exact (Clo.keep (f := 106) (xs := [ptr q, .int .u64 x, .int .i64 (c.s - x % c.s)]) ⟨bt, rfl, ht4⟩ (k1.trans k2) (fun i hi => nqb i hi)).mono (fun i hi => .inl hi)
  ·have e3 : PutM.step ⟨c, .ph x, hd, pos, cl, e⟩ ⟨v, d, bs⟩ = ⟨c, .done, v, pos, cl, 5⟩ := if_neg hf
   rw [e3]
   exact ⟨PutAt.made (by nofun) (hn (decide_eq_false hf)) rfl, k1.trans k2⟩
 | ps x y =>
  have m1 := Int.emod_nonneg x (show c.s ≠ 0 by omega)
  have m2 := Int.emod_lt_of_pos x (show 0 < c.s by omega)
  obtain ⟨t, hm, vt, c1, c2⟩ := hA
  obtain ⟨pb, tb, gb, rfl, ⟨hp, op⟩, ⟨ht, ot⟩, hg, og⟩ := c2.c3
  refine takeStore O q _ t _ _ _ v d s0 sl sc w hm c1 nq enGap2 _ (fun w1 m1 k1 => ?_)
  refine (pGap2_any x _ pb tb gb w1 (hW w1 m1 k1) (hp.keep k1 (nqb pb op)) (ht.keep k1 (nqb tb ot)) (hg.keep k1 (nqb gb og)) (by dsimp only; omega) (by dsimp only; omega)).mono ?_
  rintro e2 w' ⟨rfl, hto⟩
  exact ⟨rfl, hto.after k1⟩
 | cs x pad =>
  obtain ⟨t, hm, v1, c1, c2⟩ := hA
  obtain ⟨pb, tb, gb, rfl, ⟨hp, op⟩, ⟨ht, ot⟩, hg, og⟩ := c2.c3
  refine takeCas O q _ t _ _ _ v d s0 sl sc w hm c1 nq enClaimK _ (fun w1 m1 k1 => ?_)
  refine (pClaimK_any d x pad pb tb gb w1 (hW w1 m1 k1) (hp.keep k1 (nqb pb op)) (ht.keep k1 (nqb tb ot)) (hg.keep k1 (nqb gb og)) op ot og hF.2).mono ?_
  rintro e2 w' ⟨rfl, hto⟩
  refine ⟨rfl, ?_⟩
  have e3 : PutM.step ⟨c, .cs x pad, hd, pos, cl, e⟩ ⟨v, d, bs⟩ = if d then PutM.claimed ⟨c, .cs x pad, hd, pos, cl, e⟩ x pad else ⟨c, .tl, hd, pos, cl, e⟩ := rfl
  rw [e3]
  exact hto.after k1
 | pd x =>
  obtain ⟨t, hm, v1, c1, c2⟩ := hA
  obtain ⟨pb, rfl, hp, op⟩ := c2.c1
  refine takeStore O q _ t _ _ _ v d s0 sl sc w hm c1 nq enClaimK1 _ (fun w1 m1 k1 => ?_)
  refine (pClaimP_any pb w1 (hW w1 m1 k1) (hp.keep k1 (nqb pb op)) (nqb pb op)).mono ?_
  rintro e2 w' ⟨rfl, hto⟩
  exact ⟨rfl, hto.after k1⟩
 | wh a =>
  obtain ⟨t, hm, v1, c1, c2⟩ := hA
  obtain ⟨pb, ab, nb, rfl, ⟨hp, op⟩, ⟨ha, oa⟩, hn, on⟩ := c2.c3
  refine takeStore O q _ t _ _ _ v d s0 sl sc w hm c1 nq enWrite _ (fun w1 m1 k1 => ?_)
  refine (pWriteK_any a pb ab nb w1 (hW w1 m1 k1) (hp.keep k1 (nqb pb op)) (ha.keep k1 (nqb ab oa)) (hn.keep k1 (nqb nb on)) op oa on hF.1 hF.2).mono ?_
  rintro e2 w' ⟨rfl, hto⟩
  exact ⟨rfl, hto.after k1⟩
 | wb a p l =>
  obtain ⟨f0, hin, c2⟩ := hA
  obtain ⟨pb, ab, nb, rfl, ⟨hp, op⟩, ⟨ha, oa⟩, hn, on⟩ := c2.c3
  obtain ⟨q1, q2, q3, q4, q5⟩ := hF
  by_cases h8 : 8 < l.length
  ·refine (inTake_more O q p l _ _ _ v d s0 sl sc w hin nq h8 (by omega) (by omega) (by omega)).mono ?_
   rintro e2 w' ⟨rfl, hin', k'⟩
   refine ⟨rfl, ?_⟩
   have e3 : PutM.step ⟨c, .wb a p l, hd, pos, cl, e⟩ ⟨v, d, bs⟩ = ⟨c, .wb a (p + 8) (l.drop 8), hd, pos, cl, e⟩ := if_neg (by omega)
   rw [e3]
   exact ⟨⟨_, hin', Clo.mk3 (hp.keep k' (nqb pb op)) (.inl op) (ha.keep k' (nqb ab oa)) (.inl oa) (hn.keep k' (nqb nb on)) (.inl on)⟩, k'⟩
  ·refine (inTake_last O q p l _ _ _ v d s0 sl sc w hin nq (by omega) (by omega) (by omega) (enWrite1 _) (fun w' => PutTo w O q (PutM.step ⟨c, .wb a p l, hd, pos, cl, e⟩ ⟨v, d, bs⟩) bv w') (· = q) rfl (fun i hi => nqb i hi) (fun w1 m1 k1 => ?_)).mono ?_
   ·refine (pWrite1_any a pb ab nb w1 (hW w1 m1 k1) (hp.keep k1 (nqb pb op)) (ha.keep k1 (nqb ab oa)) (hn.keep k1 (nqb nb on)) op oa on).mono ?_
    rintro e2 w' ⟨rfl, hto⟩
    have e3 : PutM.step ⟨c, .wb a p l, hd, pos, cl, e⟩ ⟨v, d, bs⟩ = ⟨c, .fi a, hd, pos, cl, e⟩ := if_pos (by omega)
    rw [e3]
    exact ⟨rfl, hto.after k1, hto.2⟩
   ·rintro e2 w' ⟨rfl, hto, k'⟩
    exact ⟨rfl, hto⟩
 | fi a =>
  obtain ⟨t, hm, v1, c1, c2⟩ := hA
  obtain ⟨pb, rfl, hp, op⟩ := c2.c1
  refine takeStore O q _ t _ _ _ v d s0 sl sc w hm c1 nq enWrite2 _ (fun w1 m1 k1 => ?_)
  refine (pWrite2_any pb w1 (hW w1 m1 k1) (hp.keep k1 (nqb pb op))).mono ?_
  rintro e2 w' ⟨rfl, hto⟩
  exact ⟨rfl, hto.after k1⟩
theorem pcNext_any (w : World) (h : PutI w O q m bv) :
  Calls Tryz.prog 113 #[.pointer (some ⟨q, 0, none⟩)] w fun e w' => ∃ s0 sl sc, e = .returned (.tuple #[m.want.V (.slice s0 sl sc), .bool m.live]) ∧ RdB w' (.slice s0 sl sc) m.want.b ∧ Below w.heap.size w w' := by
 have hA := h.at_
 obtain ⟨c, pc, hd, pos, cl, e⟩ := m
 have more : ∀ (a : AA) (f : Nat) (xs : List Value) (t : Value) (r : List Value), a.b = [] → Mch w q a.acc t r → Clo w O t f xs → Calls Tryz.prog 113 #[.pointer (some ⟨q, 0, none⟩)] w fun e w' => ∃ s0 sl sc, e = .returned (.tuple #[a.V (.slice s0 sl sc), .bool true]) ∧ RdB w' (.slice s0 sl sc) a.b ∧ Below w.heap.size w w' := by
  intro a f xs t r hb hm hc
  obtain ⟨bs, rfl, _⟩ := hc
  refine (cNext_more q a.k a.a a.n a.v a.x none 0 0 f _ r w hm).mono ?_
  rintro e w' ⟨rfl, b⟩
  exact ⟨none, 0, 0, rfl, by rw [hb]; exact .inl ⟨rfl, rfl⟩, b⟩
 cases pc with
 | done =>
  obtain ⟨t, hm, rfl⟩ := hA
  refine (cNext_end q _ _ w hm).mono ?_
  rintro e w' ⟨rfl, b⟩
  exact ⟨none, 0, 0, rfl, .inl ⟨rfl, rfl⟩, b⟩
 | hd0 => obtain ⟨t, hm, v1, c1, _⟩ := hA; exact more _ _ _ _ _ rfl hm c1
 | tl => obtain ⟨t, hm, v1, c1, _⟩ := hA; exact more _ _ _ _ _ rfl hm c1
 | rm x => obtain ⟨t, hm, v1, ve, vt, c1, _⟩ := hA; exact more _ _ _ _ _ rfl hm c1
 | rs x y => obtain ⟨t, hm, v1, c1, _⟩ := hA; exact more _ _ _ _ _ rfl hm c1
 | ph x => obtain ⟨t, hm, v1, ve, vt, c1, _⟩ := hA; exact more _ _ _ _ _ rfl hm c1
 | ps x y => obtain ⟨t, hm, v1, c1, _⟩ := hA; exact more _ _ _ _ _ rfl hm c1
 | cs x y => obtain ⟨t, hm, v1, c1, _⟩ := hA; exact more _ _ _ _ _ rfl hm c1
 | pd x => obtain ⟨t, hm, v1, c1, _⟩ := hA; exact more _ _ _ _ _ rfl hm c1
 | wh x => obtain ⟨t, hm, v1, c1, _⟩ := hA; exact more _ _ _ _ _ rfl hm c1
 | fi x => obtain ⟨t, hm, v1, c1, _⟩ := hA; exact more _ _ _ _ _ rfl hm c1
 | wb a p l =>
  obtain ⟨f0, ⟨b, off, cap, n, t, hm, hn, hl0, hc, hcm, ⟨cb, ab, nb, bb, tb, rfl, _⟩, ob, hcell⟩, _⟩ := hA
  refine (cNext_more q 6 p n 0 0 (some ⟨b, off, none⟩) n n _ _ _ w hm).mono ?_
  rintro e2 w' ⟨rfl, b2⟩
  have hn' : (n : Int) = min (l.length : Int) 8 := by omega
  refine ⟨some ⟨b, off, none⟩, n, n, ?_, ?_, b2⟩
  ·simp only [AA.V, PutM.want, PutM.live, Acc.V]
   rw [hn']
  ·have hl8 : (l.take 8).length = n := by simp; omega
   show RdB w' _ (l.take 8)
   rw [← hl8]
   refine .inr <| .inr ⟨b, off, _, rfl, Nat.le_refl _, by omega, fun i hi => ?_⟩
   have hci := hcell i (by omega)
   rw [b2.cell (p := ⟨b, off + i, none⟩) (World.block_lt_of_cell? w _ hci), hci, gB_take _ _ _ (by omega)]
set_option maxHeartbeats 1000000 in
theorem pNext_any (w : World) (h : PutI w O q m bv) :
  Calls Tryz.prog 214 #[.pointer (some ⟨q, 0, none⟩)] w fun e w' => ∃ s0 sl sc, e = .returned (.tuple #[m.want.V (.slice s0 sl sc), .bool m.live]) ∧ RdB w' (.slice s0 sl sc) m.want.b ∧ Below w.heap.size w w' := by
 have hlt : q < w.heap.size := by obtain ⟨c, t, hm⟩ := h.at_.mch; exact Blk.lt hm
 have HI := Lib.hid h
 obtain ⟨W, hW⟩ : ∃ W, W = m.want := ⟨_, rfl⟩
 obtain ⟨L, hL⟩ : ∃ L, L = m.live := ⟨_, rfl⟩
 have HW := Lib.hid hW
 have HL := Lib.hid hL
 rw [← hW, ← hL]
 clear h hW hL
 go_enter Tryz.func214, Tryz.ntmps214
 go_wp2_with fail
 refine (pcNext_any (w.alloc (.cells #[.int .i64 0, .int .i64 0, .int .i64 0, .int .u64 0, .int .u64 0, .slice none 0 0] 72)) ⟨HI.out.at_.keep (Below.keeps (M := fun _ => False) ((Below.refl w.heap.size w).alloc (Nat.le_refl _) _)) (fun _ _ => id) id, HI.out.rd.below ((Below.refl w.heap.size w).alloc (Nat.le_refl _) _), HI.out.ob, HI.out.nq, HI.out.fine⟩).mono ?_
 rintro e w1 ⟨s0, sl, sc, rfl, hr, b1⟩
 rw [← HW.out, ← HL.out]
 rw [← HW.out] at hr
 unfold AA.V
 dsimp only
 have z1 := b1.size
 simp at z1
 have A1 := Lib.hid (Blk.below (Blk.made w #[.int .i64 0, .int .i64 0, .int .i64 0, .int .u64 0, .int .u64 0, .slice none 0 0] 72) b1 (by simp))
 have B1 : Below w.heap.size w w1 := ((Below.refl w.heap.size w).alloc (Nat.le_refl _) _).trans (b1.mono (by simp))
 have y1 : w.heap.size < w1.heap.size := by omega
 have HR := Lib.hid hr
 clear b1 hr
 have a0 := A1.out.cell 0
 have a1 := A1.out.cell 1
 have a2 := A1.out.cell 2
 have a3 := A1.out.cell 3
 have a4 := A1.out.cell 4
 have a5 := A1.out.cell 5
 have e0 := A1.out.frozen 0
 have e1 := A1.out.frozen 1
 have e2 := A1.out.frozen 2
 have e3 := A1.out.frozen 3
 have e4 := A1.out.frozen 4
 have e5 := A1.out.frozen 5
 simp only [List.getElem?_toArray, List.getElem?_cons_zero, List.getElem?_cons_succ] at a0 a1 a2 a3 a4 a5
 go_wp2
 refine bodyPost_ret (v := .tuple #[W.V (.slice s0 sl sc), .bool L]) (res_aa (c := W) rfl rfl rfl (((((((A1.out.set 0 _).set 1 _).set 2 _).set 3 _).set 4 _).set 5 _))) rfl ⟨s0, sl, sc, rfl, ?_, ?_⟩
 ·refine HR.out.keep (K := (· = w.heap.size)) ?_ (fun h => HR.out.apart h A1.out rfl)
  repeat' (refine Keep.setCell (M := (· = w.heap.size)) ?_ (Or.inl (by simp)) _)
  exact Keep.refl _ _
 ·repeat' (refine Below.setCell ?_ (by simp; try omega) _)
  exact B1
theorem PutTo.i {w w' : World} {m m' : PutM} (h : PutI w O q m bv) (hto : PutTo w O q m' bv w') (hc : m'.c = m.c) (hf : m'.fine) : PutI w' (Gr O w w') q m' bv := by
 obtain ⟨c, t, hm⟩ := h.at_.mch
 have hlt : q < w.heap.size := Blk.lt hm
 refine ⟨hto.1, ?_, fun i hi => .inl (h.ob i hi), ?_, hf⟩
 ·rw [hc]
  exact h.rd.keepP hto.2 (fun i hi e => h.nq (e ▸ h.ob i hi))
 ·rintro (h1 | h1)
  ·exact h.nq h1
  ·omega
theorem PutM.step_c (m : PutM) (x : AN) : (m.step x).c = m.c := by
 unfold PutM.step PutM.gapped
 repeat' split
 all_goals rfl
theorem PutI.keep {w w' : World} {O M : Nat → Prop} (h : PutI w O q m bv) (k : Keep M w w') (hd : ∀ i, O i → ¬ M i) (hq : ¬ M q) : PutI w' O q m bv :=
 ⟨h.at_.keep k hd hq, h.rd.keepP k (fun i hi => hd i (h.ob i hi)), h.ob, h.nq, h.fine⟩
theorem PutI.below {w w' : World} (h : PutI w O q m bv) (b : Below w.heap.size w w') : PutI w' O q m bv := h.keep (M := fun _ => False) (Below.keeps b) (fun _ _ => id) id
set_option maxHeartbeats 2000000 in
theorem pTake_any (x : AN) (s0 : Option Addr) (sl sc : Nat) (w : World) (h : PutI w O q m bv) (hl : m.live = true) (hx : inU x.v) :
  Calls Tryz.prog 215 #[.pointer (some ⟨q, 0, none⟩), .agg #[.int .u64 x.v, .bool x.d, .slice s0 sl sc]] w fun e w' => e = .returned (.tuple #[]) ∧ PutI w' (Gr O w w') q (m.step x) bv ∧ Keep (· = q) w w' := by
 have hlt : q < w.heap.size := by obtain ⟨c, t, hm⟩ := h.at_.mch; exact Blk.lt hm
 have HI := Lib.hid h
 have HF := Lib.hid (h.fine.step hl hx)
 clear h
 go_enter Tryz.func215, Tryz.ntmps215
 go_wp2_with fail
 go_region_held3 (fun w' => w'.cell? ⟨w.heap.size, 0, none⟩ = some (.int .u64 x.v) ∧ w'.cell? ⟨w.heap.size, 1, none⟩ = some (.bool x.d) ∧ w'.cell? ⟨w.heap.size, 2, none⟩ = some (.slice s0 sl sc)) (first | go_keep | trivial)
  (first
   | (go_at_call 192; refine (pcTake_any x.v x.d x.b s0 sl sc _ (HI.out.below (by go_grown)) hl).mono ?_; rintro e w2 ⟨rfl, hto⟩; have hc := fun o => hto.2.cell (b := w.heap.size) o (by simp) (by show ¬ w.heap.size = q; omega)))
 all_goals
  clear hc
  go_wp2
  go_end0
  have hto2 := hto.from (w := w) (O := O) (((Keep.refl _ w).alloc _).drew) (fun i hi => .inl hi)
  exact ⟨rfl, hto2.i HI.out (PutM.step_c m x) HF.out, hto2.2⟩
def PutM.rv (m : PutM) : Int := if m.e = 0 then m.pos else 0
set_option maxHeartbeats 1000000 in
theorem pResult_any (w : World) (h : PutAt w O q m bv) :
  Calls Tryz.prog 85 #[.pointer (some ⟨q, 0, none⟩)] w fun e w' => e = .returned (.tuple #[.int .i64 m.rv, .int .i64 m.e]) ∧ Below w.heap.size w w' := by
 obtain ⟨c, t, hm⟩ := h.mch
 obtain ⟨_, _, _, _, _, _, c13, _, c15⟩ := put_cells hm
 have hlt : q < w.heap.size := Blk.lt hm
 clear h hm
 by_cases he : m.e = 0
 ·have hv : m.rv = m.pos := if_pos he
  rw [hv]
  rw [he] at c15 ⊢
  clear hv he
  go_enter Tryz.func85, Tryz.ntmps85
  go_wp2
  go_ret2
  exact ⟨rfl, Below.refl _ _⟩
 ·have hv : m.rv = 0 := if_neg he
  rw [hv]
  have he' : (m.e != 0) = true := by simpa using he
  clear hv
  go_enter Tryz.func85, Tryz.ntmps85
  go_wp2_with fail
  go_quiet (fail)
  go_wp2
  go_ret2
  exact ⟨rfl, bel_drewN _ (Below.refl _ _)⟩
theorem bel_drewP {B : Nat} {w w' : World} (h : Below B w.drew w') : Below B w w' := ⟨h.os, h.tape, h.output, h.size, h.block⟩
theorem Blk.made2 (w : World) (o : Obj) (cs : Array Value) (T : TypeId) : Blk ((w.alloc o).alloc (.cells cs T)) (w.heap.size + 1) cs.toList := by
 have h := Blk.made (w.alloc o) cs T
 rw [World.size_alloc] at h
 exact h
theorem OwB.weak {E B B' : Nat} {w : World} (h : OwB E B w v l) (hB : B' ≤ B) : OwB E B' w v l := by
 obtain ⟨h1, h2⟩ := h
 refine ⟨h1, h2.imp id ?_⟩
 rintro ⟨g, cap, cur, e1, e2, e3⟩
 exact ⟨g, cap, cur, e1, Nat.le_trans hB e2, e3⟩
theorem OwB.fresh {E B : Nat} {w : World} (h : OwB E B w v l) : ∀ i, v.ownBlock = some i → B ≤ i ∧ i < w.heap.size := fun i hi => World.ownsRow.lt h i hi
theorem alV8 {n : Int} (h0 : 0 ≤ n) (h1 : n ≤ 131072) : szV n 8 8 = (n + 15) / 8 * 8 := by
 have hp : isP 8 = true := by decide
 have e1 : decide (n < 0) = false := decide_eq_false (by omega)
 have e2 : decide (131072 < n) = false := decide_eq_false (by omega)
 have e3 : decide (n + 8 < 0) = false := decide_eq_false (by omega)
 have e4 : decide (4611686018427387904 < n + 8) = false := decide_eq_false (by omega)
 unfold szV szBad alV alBad
 rw [e1, e2, e3, e4, hp]
 simp only [Bool.or_false, Bool.not_true, Bool.false_eq_true, if_false]
 split <;> omega
set_option maxHeartbeats 4000000 in
theorem pNew_any (b s typ : Int) (s0 : Option Addr) (sl sc : Nat) (l : List Int) (w : World) (hr : RdB w (.slice s0 sl sc) l) (hl : l.length ≤ 70368744177664) (hB : IsB l) (hb0 : -9223372036854775808 ≤ b) (hb1 : b ≤ 9223372036854775807) (hs0 : -9223372036854775808 ≤ s) (hs1 : s ≤ 9223372036854775807) :
  Calls Tryz.prog 32 #[.agg #[.int .i64 b, .int .i64 s], .int .i32 typ, .slice s0 sl sc] w fun e w' => ∃ q bv, e = .returned (.pointer (some ⟨q, 0, none⟩)) ∧ w.heap.size ≤ q ∧ q < w'.heap.size ∧ PutI w' (fun k => w.heap.size ≤ k ∧ k < w'.heap.size ∧ k ≠ q) q (PutC.init ⟨b, s, typ, l⟩) bv ∧ Below w.heap.size w w' := by
 have HR := Lib.hid hr
 have hsl := rd_len hr
 have HSL := Lib.hid hsl
 have HB := Lib.hid hB
 have HL := Lib.hid hl
 have b1 : Below w.heap.size w (w.alloc (.cells #[.int .i64 b, .int .i64 s] 25)) := by go_grown
 have R1 := Lib.hid (hr.below b1)
 have X1 := Lib.hid (Blk.made w #[.int .i64 b, .int .i64 s] 25)
 clear hr hsl hB b1
 go_enter Tryz.func32, Tryz.ntmps32
 go_upto_region 1 with fail
 obtain ⟨w1, hw1⟩ : ∃ w1, w1 = w.alloc (.cells #[.int .i64 b, .int .i64 s] 25) := ⟨_, rfl⟩
 rw [← hw1] at R1 X1 ⊢
 have y1 : w.heap.size < w1.heap.size := by rw [hw1]; simp
 have B1 := Lib.hid (show Below w.heap.size w w1 by rw [hw1]; go_grown)
 have x0 := X1.out.cell 0
 have x1 := X1.out.cell 1
 simp only [List.getElem?_cons_zero, List.getElem?_cons_succ] at x0 x1
 clear hw1
 go_cut [7] from 10 to 15 (fun pp wx => ∃ q tb a n c, pp = .pointer (some ⟨tb, 0, none⟩) ∧ Blk wx tb [.pointer (some ⟨q, 0, none⟩)] ∧ w1.heap.size ≤ tb ∧ w1.heap.size ≤ q ∧ tb ≠ q ∧ Mch wx q accZ .nilFunc [.int .i64 b, .int .i64 s, .int .i32 typ, .slice a n c, .int .i64 0, .int .u64 0, .int .i64 0, .bool false, .int .i64 10] ∧ OwB 5 w1.heap.size wx (.slice a n c) l ∧ (Value.slice a n c).ownBlock ≠ some q ∧ (Value.slice a n c).ownBlock ≠ some tb ∧ Below w1.heap.size w1 wx)
 case first =>
  refine wp_region_held_drew (S := fun w' => w'.cell? ⟨w.heap.size, 0, none⟩ = some (.int .i64 b) ∧ w'.cell? ⟨w.heap.size, 1, none⟩ = some (.int .i64 s)) (by kernel_rfl) ?_ (fun hHeld => ?_)
  ·try dsimp only
   exact ⟨x0, x1⟩
  refine wpT 0 rfl ?_
  try simp only [Act.put, tS]
  refine wpT 1 rfl ?_
  try simp only [Act.put, tS]
  refine wpT 2 rfl ?_
  try simp only [Act.put, tS]
  refine wpAnyH_ready (rs := [3, 6]) (by kernel_rfl) (by simp) ?_
  refine AllReadyH.cons rfl (fun K hK => ?_) (AllReadyH.cons rfl (fun K hK => ?_) AllReadyH.nil)
  ·go_simp
   go_at_call 34
   refine (clone_any _ l _ (R1.out.below (by go_grown)) HL.out).mono ?_
   rintro e w2 ⟨s2, rfl, o2, b2⟩
   obtain ⟨a2, n2, c2, rfl⟩ := o2.isSliceC
   have hc := fun o => b2.cell (p := ⟨w.heap.size, o, none⟩) (by simp; omega)
   have z2 := b2.size
   simp at z2
   have b2' : Below w1.heap.size w1 w2 := bel_drewP b2
   have z2' : w1.heap.size ≤ w2.heap.size := b2'.size
   go_wp2_with fail
   refine hK.out _ _ ?_ (fun hHeld => ?_)
   ·try dsimp only
    go_keep
   clear hK K
   try simp only [Act.put, tS]
   refine wpT 4 rfl ?_
   try simp only [Act.put, tS]
   refine wpAnyH_ready (rs := [5, 6]) (by kernel_rfl) (by simp) ?_
   refine AllReadyH.cons rfl (fun K hK => ?_) (AllReadyH.cons rfl (fun K hK => ?_) AllReadyH.nil)
   ·go_simp
    go_wp2_with fail
    refine hK.out _ _ ?_ (fun hHeld => ?_)
    ·try dsimp only
     go_keep
    clear hK K
    try simp only [Act.put, tS]
    refine wpR 6 rfl fun K hK => ?_
    go_simp
    refine hK.out _ _ ?_ (fun hHeld => ?_)
    ·try dsimp only
     go_keep
    clear hK K
    try simp only [Act.put, tS]
    refine wpR 7 rfl fun K hK => ?_
    go_simp
    refine hK.out _ _ ?_ (fun hHeld => ?_)
    ·try dsimp only
     go_keep
    clear hK K
    try simp only [Act.put, tS]
    refine wpAnyH_done (by kernel_rfl) ?_ _
    go_wp2_with fail
    go_meet
    exact ⟨w2.heap.size, w2.heap.size + 1, a2, n2, c2, rfl, by simpa using Blk.made (w2.alloc _) _ _, by omega, by omega, by omega, (Blk.made w2 _ _).alloc _, (o2.below ((Below.refl _ _).alloc (Nat.le_refl _) _)).below ((Below.refl _ _).alloc (Nat.le_refl _) _), fun e => by have := (o2.fresh _ e).2; omega, fun e => by have := (o2.fresh _ e).2; omega, (b2'.alloc z2' _).alloc (by simp; omega) _⟩
   ·go_simp
    go_wp2_with fail
    refine hK.out _ _ ?_ (fun hHeld => ?_)
    ·try dsimp only
     go_keep
    clear hK K
    try simp only [Act.put, tS]
    refine wpR 5 rfl fun K hK => ?_
    go_simp
    refine hK.out _ _ ?_ (fun hHeld => ?_)
    ·try dsimp only
     go_keep
    clear hK K
    try simp only [Act.put, tS]
    refine wpR 7 rfl fun K hK => ?_
    go_simp
    refine hK.out _ _ ?_ (fun hHeld => ?_)
    ·try dsimp only
     go_keep
    clear hK K
    try simp only [Act.put, tS]
    refine wpAnyH_done (by kernel_rfl) ?_ _
    go_wp2_with fail
    go_meet
    exact ⟨w2.heap.size + 1, w2.heap.size, a2, n2, c2, rfl, (Blk.made w2 _ _).alloc _, by omega, by omega, by omega, Blk.made2 w2 _ _ _, (o2.below ((Below.refl _ _).alloc (Nat.le_refl _) _)).below ((Below.refl _ _).alloc (Nat.le_refl _) _), fun e => by have := (o2.fresh _ e).2; omega, fun e => by have := (o2.fresh _ e).2; omega, (b2'.alloc z2' _).alloc (by simp; omega) _⟩
  ·go_simp
   go_wp2_with fail
   refine hK.out _ _ ?_ (fun hHeld => ?_)
   ·try dsimp only
    go_keep
   clear hK K
   try simp only [Act.put, tS]
   refine wpR 3 rfl fun K hK => ?_
   go_simp
   go_at_call 34
   refine (clone_any _ l _ (R1.out.below (by go_grown)) HL.out).mono ?_
   rintro e w2 ⟨s2, rfl, o2, b2⟩
   obtain ⟨a2, n2, c2, rfl⟩ := o2.isSliceC
   have hc := fun o => b2.cell (p := ⟨w.heap.size, o, none⟩) (by simp; omega)
   have z2 := b2.size
   simp at z2
   have E2 : Blk w2 w1.heap.size [.pointer none] := Blk.below (Blk.made w1.drew #[.pointer none] _) b2 (by simp)
   have hd2 := E2.cell 0
   simp only [List.getElem?_cons_zero] at hd2
   have hf2 := E2.frozen 0
   have ne2 : w1.heap.size ≠ w2.heap.size := by omega
   go_wp2_with fail
   refine hK.out _ _ ?_ (fun hHeld => ?_)
   ·try dsimp only
    go_keep
   clear hK K
   try simp only [Act.put, tS]
   refine wpT 4 rfl ?_
   try simp only [Act.put, tS]
   refine wpR 5 rfl fun K hK => ?_
   go_simp
   refine hK.out _ _ ?_ (fun hHeld => ?_)
   ·try dsimp only
    go_keep
   clear hK K
   try simp only [Act.put, tS]
   refine wpR 7 rfl fun K hK => ?_
   have E3 := Blk.alloc E2 (Obj.cells #[Value.int IntKind.i64 0, Value.int IntKind.i64 0, Value.int IntKind.i64 0, Value.int IntKind.u64 0, Value.int IntKind.u64 0, Value.slice none 0 0, Value.nilFunc, Value.int IntKind.i64 b, Value.int IntKind.i64 s, Value.int IntKind.i32 typ, Value.slice a2 n2 c2, Value.int IntKind.i64 0, Value.int IntKind.u64 0, Value.int IntKind.i64 0, Value.bool false, Value.int IntKind.i64 10] 170)
   have hd3 := E3.cell 0
   simp only [List.getElem?_cons_zero] at hd3
   have hf3 := E3.frozen 0
   have XB := (Blk.alloc (Blk.below (Blk.drew (Blk.alloc X1.out _)) b2 (by simp; omega)) (Obj.cells #[Value.int IntKind.i64 0, Value.int IntKind.i64 0, Value.int IntKind.i64 0, Value.int IntKind.u64 0, Value.int IntKind.u64 0, Value.slice none 0 0, Value.nilFunc, Value.int IntKind.i64 b, Value.int IntKind.i64 s, Value.int IntKind.i32 typ, Value.slice a2 n2 c2, Value.int IntKind.i64 0, Value.int IntKind.u64 0, Value.int IntKind.i64 0, Value.bool false, Value.int IntKind.i64 10] 170)).far (a := ⟨w1.heap.size, 0, none⟩) (by show w.heap.size ≠ w1.heap.size; omega) (Value.pointer (some ⟨w2.heap.size, 0, none⟩))
   go_simp
   refine hK.out _ _ ?_ (fun hHeld => ?_)
   ·try dsimp only
    exact ⟨XB.cell 0, XB.cell 1⟩
   clear hK K
   try simp only [Act.put, tS]
   refine wpAnyH_done (by kernel_rfl) ?_ _
   go_wp2_with fail
   go_meet
   have b2' : Below w1.heap.size w1 w2 := ((Below.refl _ w1).alloc (Nat.le_refl _) _).trans (bel_drewP (b2.mono (by simp)))
   have f2 : ∀ i, (Value.slice a2 n2 c2).ownBlock = some i → w1.heap.size + 1 ≤ i ∧ i < w2.heap.size := fun i hi => by have := o2.fresh i hi; simpa using this
   exact ⟨w2.heap.size, w1.heap.size, a2, n2, c2, rfl, E3.set 0 _, Nat.le_refl _, by omega, ne2, (Blk.made w2 _ _).far (a := ⟨w1.heap.size, 0, none⟩) (by show w2.heap.size ≠ w1.heap.size; omega) _, OwB.farNe (a := ⟨w1.heap.size, 0, none⟩) ((o2.weak (by simp)).below ((Below.refl _ _).alloc (Nat.le_refl _) _)) (fun e => by have := (f2 _ e).1; exact absurd this (Nat.not_succ_le_self _)) _, fun e => by have := (f2 _ e).2; omega, fun e => by have := (f2 _ e).1; omega, (b2'.alloc (by omega) _).setCell (p := ⟨w1.heap.size, 0, none⟩) (Nat.le_refl _) _⟩
 case rest =>
  obtain ⟨q, tb, a, n, c, rfl, htb, ltb, lq, ntq, hm, ho, nq, nt, bb⟩ := hcut
  have ha := ho.rd
  have hfr := ho.fresh
  have B2 := Lib.hid (B1.out.trans (bb.mono (by omega)))
  have X2 := Lib.hid (X1.out.below bb y1)
  have x0' := X2.out.cell 0
  have x1' := X2.out.cell 1
  simp only [List.getElem?_toArray, List.getElem?_cons_zero, List.getElem?_cons_succ] at x0' x1'
  have zc := bb.size
  have TB := Lib.hid htb
  have HM := Lib.hid hm
  have HA := Lib.hid ha
  have t0 := htb.cell 0
  simp only [List.getElem?_cons_zero] at t0
  have ltq := hm.lt
  have ltt := htb.lt
  have c15 := Blk.cell hm 15
  have f15 := Blk.frozen hm 15
  have c11 := Blk.cell hm 11
  have f11 := Blk.frozen hm 11
  simp only [Acc.cs, accZ, List.cons_append, List.nil_append, List.getElem?_cons_zero, List.getElem?_cons_succ] at c15 c11
  clear htb hm ho bb ha x0 x1
  have HN : Hid ((PutC.init ⟨b, s, typ, l⟩).fine) := by
   refine Lib.hid ⟨HB.out, fun h => ?_, ⟨Int.le_refl 0, show (0 : Int) ≤ 18446744073709551615 by omega⟩, ?_⟩
   ·unfold PutC.init PutM.live at h
    dsimp only at h
    by_cases hk : (PutC.mk b s typ l).ok = true
    ·exact hk
    ·rw [if_neg hk] at h
     cases h
   ·unfold PutC.init PutM.pcOk
    dsimp only
    split <;> first | trivial | (rename_i h; split at h <;> simp at h)
  by_cases hg : rgOk b s = true
  ·have hE : rgE b s = 0 := if_pos hg
   have RG := Lib.hid hE
   obtain ⟨r1, r2, r3, r4, r5, r6⟩ := rgOk_bd hg
   have HG := Lib.hid hg
   clear hE r1 hg
   by_cases ht : typ < 1
   ·have hto : ¬ 1 ≤ typ := by omega
    have hg := HG.out
    have hI : PutC.init ⟨b, s, typ, l⟩ = ⟨⟨b, s, typ, l⟩, .done, 0, 0, false, 1⟩ := by
     have h1 : (PutC.mk b s typ l).ok = false := by unfold PutC.ok; simp [hg, hto]
     unfold PutC.init PutC.e0
     rw [h1]
     simp [hg, hto]
    have hN0 : (PutC.mk b s typ l).nd = 0 := by
     have h1 : (PutC.mk b s typ l).ok = false := by unfold PutC.ok; simp [hg, hto]
     unfold PutC.nd
     rw [h1]
     rfl
    have HI := Lib.hid hI
    have HN0 := Lib.hid hN0
    clear hI hN0
    clear hg hto
    go_wp2_with fail
    refine (rCheck_any b s _ hb0 hb1 hs0 hs1).mono ?_
    rintro e w3 ⟨rfl, b3⟩
    rw [RG.out]
    have z3 := b3.size
    have HM3 := Lib.hid (show Mch w3 q accZ .nilFunc [.int .i64 b, .int .i64 s, .int .i32 typ, .slice a n c, .int .i64 0, .int .u64 0, .int .i64 0, .bool false, .int .i64 10] from Blk.below HM.out b3 ltq)
    have TB3 := Lib.hid (TB.out.below b3 ltt)
    have HA3 := Lib.hid (HA.out.below b3)
    have B3 := Lib.hid (B2.out.trans (b3.mono (by omega)))
    have X3 := Lib.hid (X2.out.below b3 (by omega))
    have t3 := TB3.out.cell 0
    have y0 := X3.out.cell 0
    have y1' := X3.out.cell 1
    have d15 := Blk.cell HM3.out 15
    have g15 := Blk.frozen HM3.out 15
    have d11 := Blk.cell HM3.out 11
    have g11 := Blk.frozen HM3.out 11
    simp only [List.getElem?_toArray, Acc.cs, accZ, List.cons_append, List.nil_append, List.getElem?_cons_zero, List.getElem?_cons_succ] at t3 y0 y1' d15 d11
    have ltq3 : q < w3.heap.size := by omega
    have ltt3 : tb < w3.heap.size := by omega
    have ltw3 : w.heap.size < w3.heap.size := by omega
    clear b3 HM TB HA B2 X2 t0 x0' x1' c15 f15 c11 f11
    go_wp2
    go_ret
    refine ⟨q, .slice a n c, rfl, by omega, by simpa using ltq3, ?_, B3.out.setCell (p := ⟨q, 15, none⟩) (by show w.heap.size ≤ q; omega) _⟩
    have hN := HN.out
    rw [HI.out] at hN ⊢
    have hm := Blk.set HM3.out 15 (.int .i64 1)
    refine ⟨PutAt.made (by nofun) (t := .nilFunc) (by rw [show (PutM.mk ⟨b, s, typ, l⟩ .done 0 0 false 1).rest (.slice a n c) = [.int .i64 b, .int .i64 s, .int .i32 typ, .slice a n c, .int .i64 (PutC.mk b s typ l).nd, .int .u64 0, .int .i64 0, .bool false, .int .i64 1] from rfl, HN0.out]; exact hm) rfl, ?_, ?_, fun h => h.2.2 rfl, hN⟩
    ·refine HA3.out.keepP (K := (· = q)) (Keep.setCell (M := (· = q)) (Keep.refl _ _) (p := ⟨q, 15, none⟩) (.inl rfl) _) (fun i hi e => nq (e ▸ hi))
    ·intro i hi
     have h9 := hfr i hi
     refine ⟨by omega, by simp; omega, fun e => nq (e ▸ hi)⟩
   ·have hto : 1 ≤ typ := by omega
    have hs8 : s.tdiv 8 = s / 8 := Int.tdiv_eq_ediv_of_nonneg (by omega)
    have W8 : IntKind.i64.wrap (s / 8) = s / 8 := IntWalk.i64_in _ ⟨by omega, by omega⟩
    have W8' : IntKind.i64.wrap (s.tdiv 8) = s.tdiv 8 := IntWalk.i64_in _ ⟨by omega, by omega⟩
    by_cases hlen : s / 8 < (l.length : Int)
    ·have hle : ¬ (l.length : Int) ≤ s / 8 := by omega
     have hg := HG.out
     have hI : PutC.init ⟨b, s, typ, l⟩ = ⟨⟨b, s, typ, l⟩, .done, 0, 0, false, 4⟩ := by
      have h1 : (PutC.mk b s typ l).ok = false := by unfold PutC.ok; simp [hg, hto, hle]
      unfold PutC.init PutC.e0
      rw [h1]
      simp [hg, hto, hle]
     have hN0 : (PutC.mk b s typ l).nd = 0 := by
      have h1 : (PutC.mk b s typ l).ok = false := by unfold PutC.ok; simp [hg, hto, hle]
      unfold PutC.nd
      rw [h1]
      rfl
     have HI := Lib.hid hI
     have HN0 := Lib.hid hN0
     clear hI hN0
     clear hg hle
     have hlen' : s / 8 < (sl : Int) := by have := HSL.out; omega
     rw [← hs8] at hlen'
     go_wp2_with fail
     refine (rCheck_any b s _ hb0 hb1 hs0 hs1).mono ?_
     rintro e w3 ⟨rfl, b3⟩
     rw [RG.out]
     have z3 := b3.size
     have HM3 := Lib.hid (show Mch w3 q accZ .nilFunc [.int .i64 b, .int .i64 s, .int .i32 typ, .slice a n c, .int .i64 0, .int .u64 0, .int .i64 0, .bool false, .int .i64 10] from Blk.below HM.out b3 ltq)
     have TB3 := Lib.hid (TB.out.below b3 ltt)
     have HA3 := Lib.hid (HA.out.below b3)
     have B3 := Lib.hid (B2.out.trans (b3.mono (by omega)))
     have X3 := Lib.hid (X2.out.below b3 (by omega))
     have t3 := TB3.out.cell 0
     have y0 := X3.out.cell 0
     have y1' := X3.out.cell 1
     have d15 := Blk.cell HM3.out 15
     have g15 := Blk.frozen HM3.out 15
     have d11 := Blk.cell HM3.out 11
     have g11 := Blk.frozen HM3.out 11
     simp only [List.getElem?_toArray, Acc.cs, accZ, List.cons_append, List.nil_append, List.getElem?_cons_zero, List.getElem?_cons_succ] at t3 y0 y1' d15 d11
     have ltq3 : q < w3.heap.size := by omega
     have ltt3 : tb < w3.heap.size := by omega
     have ltw3 : w.heap.size < w3.heap.size := by omega
     clear b3 HM TB HA B2 X2 t0 x0' x1' c15 f15 c11 f11
     go_wp2
     go_ret
     refine ⟨q, .slice a n c, rfl, by omega, by simpa using ltq3, ?_, B3.out.setCell (p := ⟨q, 15, none⟩) (by show w.heap.size ≤ q; omega) _⟩
     have hN := HN.out
     rw [HI.out] at hN ⊢
     have hm := Blk.set HM3.out 15 (.int .i64 4)
     refine ⟨PutAt.made (by nofun) (t := .nilFunc) (by rw [show (PutM.mk ⟨b, s, typ, l⟩ .done 0 0 false 4).rest (.slice a n c) = [.int .i64 b, .int .i64 s, .int .i32 typ, .slice a n c, .int .i64 (PutC.mk b s typ l).nd, .int .u64 0, .int .i64 0, .bool false, .int .i64 4] from rfl, HN0.out]; exact hm) rfl, ?_, ?_, fun h => h.2.2 rfl, hN⟩
     ·refine HA3.out.keepP (K := (· = q)) (Keep.setCell (M := (· = q)) (Keep.refl _ _) (p := ⟨q, 15, none⟩) (.inl rfl) _) (fun i hi e => nq (e ▸ hi))
     ·intro i hi
      have h9 := hfr i hi
      refine ⟨by omega, by simp; omega, fun e => nq (e ▸ hi)⟩
    ·have hle : (l.length : Int) ≤ s / 8 := by omega
     have hg := HG.out
     have hok : (PutC.mk b s typ l).ok = true := by unfold PutC.ok; simp [hg, hto, hle]
     have hI : PutC.init ⟨b, s, typ, l⟩ = ⟨⟨b, s, typ, l⟩, .hd0, 0, 0, false, 10⟩ := by
      unfold PutC.init PutC.e0
      rw [hok]
      simp [hg, hto, hle]
     have hnd : szV (sl : Int) 8 8 = (PutC.mk b s typ l).nd := by
      unfold PutC.nd
      rw [hok, if_pos rfl, HSL.out]
      exact alV8 (by omega) (by omega)
     have HI := Lib.hid hI
     have HOK := Lib.hid hok
     obtain ⟨ND, hND⟩ : ∃ N, N = (PutC.mk b s typ l).nd := ⟨_, rfl⟩
     rw [← hND] at hnd
     have HND := Lib.hid hND
     have hnd' := Lib.hid hnd
     clear hg hle hok hI hND hnd
     have hlen' : ¬ s.tdiv 8 < (sl : Int) := by have := HSL.out; omega
     have hend : b + s + 8 ≤ 9000000 := by omega
     have W9 : IntKind.i64.wrap (b + s + 8) = b + s + 8 := IntWalk.i64_in _ ⟨by omega, by omega⟩
     go_wp2_with fail
     refine (rCheck_any b s _ hb0 hb1 hs0 hs1).mono ?_
     rintro e w3 ⟨rfl, b3⟩
     rw [RG.out]
     have z3 := b3.size
     have HM3 := Lib.hid (show Mch w3 q accZ .nilFunc [.int .i64 b, .int .i64 s, .int .i32 typ, .slice a n c, .int .i64 0, .int .u64 0, .int .i64 0, .bool false, .int .i64 10] from Blk.below HM.out b3 ltq)
     have TB3 := Lib.hid (TB.out.below b3 ltt)
     have HA3 := Lib.hid (HA.out.below b3)
     have B3 := Lib.hid (B2.out.trans (b3.mono (by omega)))
     have X3 := Lib.hid (X2.out.below b3 (by omega))
     have t3 := TB3.out.cell 0
     have y0 := X3.out.cell 0
     have y1' := X3.out.cell 1
     have d15 := Blk.cell HM3.out 15
     have g15 := Blk.frozen HM3.out 15
     have d11 := Blk.cell HM3.out 11
     have g11 := Blk.frozen HM3.out 11
     simp only [List.getElem?_toArray, Acc.cs, accZ, List.cons_append, List.nil_append, List.getElem?_cons_zero, List.getElem?_cons_succ] at t3 y0 y1' d15 d11
     have ltq3 : q < w3.heap.size := by omega
     have ltt3 : tb < w3.heap.size := by omega
     have ltw3 : w.heap.size < w3.heap.size := by omega
     clear b3 HM TB HA B2 X2 t0 x0' x1' c15 f15 c11 f11
     go_wp2_with fail
     refine (recordSize_any (sl : Int) _).mono ?_
     rintro e w4 ⟨rfl, rfl⟩
     rw [hnd'.out]
     go_upto_region 4 with fail
     have M4 := Lib.hid (show Mch (w3.setCell ⟨q, 11, none⟩ (.int .i64 ND)) q accZ .nilFunc ((PutC.init ⟨b, s, typ, l⟩).rest (.slice a n c)) by
      rw [HI.out]
      have hm := Blk.set HM3.out 11 (.int .i64 ND)
      rw [HND.out] at hm ⊢
      exact hm)
     have K4 := Lib.hid (show Keep (· = q) w3 (w3.setCell ⟨q, 11, none⟩ (.int .i64 ND)) from Keep.setCell (M := (· = q)) (Keep.refl _ _) (p := ⟨q, 11, none⟩) (.inl rfl) _)
     have H4 := Lib.hid (show PutW (w3.setCell ⟨q, 11, none⟩ (.int .i64 ND)) (fun k => w.heap.size ≤ k ∧ k < w3.heap.size ∧ k ≠ q) q (PutC.init ⟨b, s, typ, l⟩) (.slice a n c) from
      ⟨M4.out, HA3.out.keepP K4.out (fun i hi e => nq (e ▸ hi)), fun i hi => by have h9 := hfr i hi; exact ⟨by omega, by omega, fun e => nq (e ▸ hi)⟩, fun h => h.2.2 rfl, HOK.out⟩)
     have B4 := Lib.hid (show Below w.heap.size w (w3.setCell ⟨q, 11, none⟩ (.int .i64 ND)) from B3.out.setCell (p := ⟨q, 11, none⟩) (by show w.heap.size ≤ q; omega) _)
     have T4 := Lib.hid (show Blk (w3.setCell ⟨q, 11, none⟩ (.int .i64 ND)) tb [.pointer (some ⟨q, 0, none⟩)] from Blk.far TB3.out (a := ⟨q, 11, none⟩) ntq _)
     have z4 : (w3.setCell ⟨q, 11, none⟩ (.int .i64 ND)).heap.size = w3.heap.size := by simp
     have EN : (PutC.init ⟨b, s, typ, l⟩).end = b + s := rfl
     obtain ⟨w4, hw4⟩ : ∃ w4, w4 = w3.setCell ⟨q, 11, none⟩ (.int .i64 ND) := ⟨_, rfl⟩
     rw [← hw4] at M4 K4 H4 B4 T4 z4 ⊢
     have t4 := T4.out.cell 0
     simp only [List.getElem?_cons_zero] at t4
     have Z4 := Lib.hid z4
     have ltq4 : q < w4.heap.size := by omega
     have ltt4 : tb < w4.heap.size := by omega
     have ltw4 : w.heap.size < w4.heap.size := by omega
     clear hw4 t3 y0 y1' d15 g15 d11 g11 z4 HM3 TB3 HA3 B3 X3
     go_region_held3 (fun w' => w'.cell? ⟨tb, 0, none⟩ = some (.pointer (some ⟨q, 0, none⟩))) (first | go_keep | trivial)
      (first
       | (go_at_call 67; refine (pEnd_any _ H4.out.drew).mono ?_; rintro e w5 ⟨rfl, b5⟩; rw [EN]; have hc5 := fun o => b5.cell (p := ⟨tb, o, none⟩) (by simpa using ltt4))
       | (go_at_call 36; refine (cLoad_any q _ _ _ (b + s + 8) 8 _ _ _ ((H4.out.drew).below b5).mch).mono ?_; rintro e w6 ⟨rfl, t6, m6, l6, k6⟩; have hc6 := fun o => k6.cell (b := tb) o (by have := b5.size; simp at this; omega) (by show ¬ tb = q; exact ntq)))
     all_goals
      clear hc5 hc6
      have z5 := b5.size
      have z6 := k6.size
      simp at z5
      have T6 := ((T4.out.drew).below b5 (by simpa using ltt4)).keep k6 (by show ¬ tb = q; exact ntq)
      have t6' := T6.cell 0
      simp only [List.getElem?_cons_zero] at t6'
      have ltt6 : tb < w6.heap.size := by omega
      go_wp2
      go_ret
      have b4' := B4.out
      refine ⟨q, .slice a n c, rfl, by omega, by omega, ?_, ?_⟩
      ·have hz := Z4.out
       refine ⟨PutAt.made (by rw [HI.out]; nofun) (t := t6) (by rw [HI.out] at m6 ⊢; exact m6) (by rw [HI.out]; exact ⟨_, l6.mono (fun i hi => ⟨by have := hi.1; omega, hi.2, by have := hi.1; omega⟩), Clo.mk1 T6 ⟨by omega, by omega, ntq⟩⟩), ?_, fun i hi => by have h9 := hfr i hi; exact ⟨by omega, by omega, fun e => nq (e ▸ hi)⟩, fun h => h.2.2 rfl, HN.out⟩
       exact ((H4.out.rd.below (bel_drewN 1 (Below.refl _ _))).below b5).keepP k6 (fun i hi e => nq (e ▸ hi))
      ·exact (b4'.trans ((bel_drewN 1 (Below.refl w4.heap.size w4)).mono (by omega))).trans ((b5.mono (by simp; omega)).trans (k6.below (by omega) (fun k h1 h2 => by omega)))
  ·have hE : rgE b s = 1 := if_neg hg
   have RG := Lib.hid hE
   clear hE
   have hI : PutC.init ⟨b, s, typ, l⟩ = ⟨⟨b, s, typ, l⟩, .done, 0, 0, false, 1⟩ := by
    have h1 : (PutC.mk b s typ l).ok = false := by unfold PutC.ok; simp [hg]
    unfold PutC.init PutC.e0
    rw [h1]
    simp [hg]
   have hN0 : (PutC.mk b s typ l).nd = 0 := by
    have h1 : (PutC.mk b s typ l).ok = false := by unfold PutC.ok; simp [hg]
    unfold PutC.nd
    rw [h1]
    rfl
   have HI := Lib.hid hI
   have HN0 := Lib.hid hN0
   clear hI hN0
   go_wp2_with fail
   refine (rCheck_any b s _ hb0 hb1 hs0 hs1).mono ?_
   rintro e w3 ⟨rfl, b3⟩
   rw [RG.out]
   have z3 := b3.size
   have HM3 := Lib.hid (show Mch w3 q accZ .nilFunc [.int .i64 b, .int .i64 s, .int .i32 typ, .slice a n c, .int .i64 0, .int .u64 0, .int .i64 0, .bool false, .int .i64 10] from Blk.below HM.out b3 ltq)
   have TB3 := Lib.hid (TB.out.below b3 ltt)
   have HA3 := Lib.hid (HA.out.below b3)
   have B3 := Lib.hid (B2.out.trans (b3.mono (by omega)))
   have X3 := Lib.hid (X2.out.below b3 (by omega))
   have t3 := TB3.out.cell 0
   have y0 := X3.out.cell 0
   have y1' := X3.out.cell 1
   have d15 := Blk.cell HM3.out 15
   have g15 := Blk.frozen HM3.out 15
   have d11 := Blk.cell HM3.out 11
   have g11 := Blk.frozen HM3.out 11
   simp only [List.getElem?_toArray, Acc.cs, accZ, List.cons_append, List.nil_append, List.getElem?_cons_zero, List.getElem?_cons_succ] at t3 y0 y1' d15 d11
   have ltq3 : q < w3.heap.size := by omega
   have ltt3 : tb < w3.heap.size := by omega
   have ltw3 : w.heap.size < w3.heap.size := by omega
   clear b3 HM TB HA B2 X2 t0 x0' x1' c15 f15 c11 f11
   go_wp2
   go_ret
   refine ⟨q, .slice a n c, rfl, by omega, by simpa using ltq3, ?_, B3.out.setCell (p := ⟨q, 15, none⟩) (by show w.heap.size ≤ q; omega) _⟩
   have hN := HN.out
   rw [HI.out] at hN ⊢
   have hm := Blk.set HM3.out 15 (.int .i64 1)
   refine ⟨PutAt.made (by nofun) (t := .nilFunc) (by rw [show (PutM.mk ⟨b, s, typ, l⟩ .done 0 0 false 1).rest (.slice a n c) = [.int .i64 b, .int .i64 s, .int .i32 typ, .slice a n c, .int .i64 (PutC.mk b s typ l).nd, .int .u64 0, .int .i64 0, .bool false, .int .i64 1] from rfl, HN0.out]; exact hm) rfl, ?_, ?_, fun h => h.2.2 rfl, hN⟩
   ·refine HA3.out.keepP (K := (· = q)) (Keep.setCell (M := (· = q)) (Keep.refl _ _) (p := ⟨q, 15, none⟩) (.inl rfl) _) (fun i hi e => nq (e ▸ hi))
   ·intro i hi
    have h9 := hfr i hi
    refine ⟨by omega, by simp; omega, fun e => nq (e ▸ hi)⟩
end Go.Proofs.YtggjhleomocojaaGreat
end
