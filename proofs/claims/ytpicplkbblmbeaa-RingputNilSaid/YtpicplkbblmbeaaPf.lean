/- A put in memory; contracts of ringput's end, place, tail, claim, look. Conditions: as each says. -/
import Derived.Test.YtpicplkbblmbeaaPd
import Derived.Test.YtpicplkbblmbeaaPe
import Derived.Test.YtpicplkbblmbeaaWm
import Derived.Test.YtpicplkbblmbeaaKj
import Derived.Deep.RegionHeld3
namespace Go.Proofs.Ytpicplkbblmbeaa
set_option maxRecDepth 100000
open Go.RowKit
set_option linter.unusedVariables false
set_option linter.unusedSimpArgs false
/-- The rest of a put's block. -/
def PutM.rest (m : PutM) (bv : Value) : List Value := [.int .i64 m.c.b, .int .i64 m.c.s, .int .i32 m.c.typ, bv, .int .i64 m.c.nd, .int .u64 m.hd, .int .i64 m.pos, .bool m.cl, .int .i64 m.e]
theorem put_cells {w : World} {q : Nat} {c : Acc} {t bv : Value} {m : PutM} (h : Mch w q c t (m.rest bv)) :
    w.cell? ⟨q, 7, none⟩ = some (.int .i64 m.c.b) ∧ w.cell? ⟨q, 8, none⟩ = some (.int .i64 m.c.s) ∧ w.cell? ⟨q, 9, none⟩ = some (.int .i32 m.c.typ) ∧ w.cell? ⟨q, 10, none⟩ = some bv ∧ w.cell? ⟨q, 11, none⟩ = some (.int .i64 m.c.nd) ∧ w.cell? ⟨q, 12, none⟩ = some (.int .u64 m.hd) ∧ w.cell? ⟨q, 13, none⟩ = some (.int .i64 m.pos) ∧ w.cell? ⟨q, 14, none⟩ = some (.bool m.cl) ∧ w.cell? ⟨q, 15, none⟩ = some (.int .i64 m.e) :=
  ⟨Blk.cell h 7, Blk.cell h 8, Blk.cell h 9, Blk.cell h 10, Blk.cell h 11, Blk.cell h 12, Blk.cell h 13, Blk.cell h 14, Blk.cell h 15⟩
def AA.acc (c : AA) : Acc := ⟨c.k, c.a, c.n, c.v, c.x, .slice none 0 0⟩
theorem pbox3 (w : World) (x0 x1 x2 : Value) (t0 t1 t2 : TypeId) : ∃ w3, w3 = ((w.alloc (.cells #[x0] t0)).alloc (.cells #[x1] t1)).alloc (.cells #[x2] t2) ∧ Blk w3 w.heap.size [x0] ∧ Blk w3 (w.heap.size + 1) [x1] ∧ Blk w3 (w.heap.size + 1 + 1) [x2] ∧ w3.heap.size = w.heap.size + 1 + 1 + 1 ∧ Below w.heap.size w w3 := by
  refine ⟨_, rfl, ?_, ?_, ?_, by simp, by go_grown⟩
  · exact ((Blk.made w #[x0] t0).alloc _).alloc _
  · have := (Blk.made (w.alloc (.cells #[x0] t0)) #[x1] t1).alloc (.cells #[x2] t2)
    simpa using this
  · have := Blk.made ((w.alloc (.cells #[x0] t0)).alloc (.cells #[x1] t1)) #[x2] t2
    simpa using this
theorem pbox2 (w : World) (x0 x1 : Value) (t0 t1 : TypeId) : ∃ w2, w2 = (w.alloc (.cells #[x0] t0)).alloc (.cells #[x1] t1) ∧ Blk w2 w.heap.size [x0] ∧ Blk w2 (w.heap.size + 1) [x1] ∧ w2.heap.size = w.heap.size + 1 + 1 ∧ Below w.heap.size w w2 := by
  refine ⟨_, rfl, ?_, ?_, by simp, by go_grown⟩
  · exact (Blk.made w #[x0] t0).alloc _
  · have := Blk.made (w.alloc (.cells #[x0] t0)) #[x1] t1
    simpa using this
/-- What a put goes on with. -/
def PClo (w : World) (O : Nat → Prop) (q : Nat) (m : PutM) (t : Value) : Prop :=
  match m.pc with
  | .done => t = .nilFunc
  | .hd0 => ∃ v1, Clo w O t 109 [v1] ∧ Clo w O v1 70 [ptr q]
  | .tl => ∃ v1, Clo w O t 109 [v1] ∧ Clo w O v1 110 [ptr q]
  | .rm x => ∃ v1 ve vt, Clo w O t 109 [v1] ∧ Clo w O v1 140 [ptr q, ve, vt] ∧ Clo w O ve 111 [ptr q, .int .u64 x] ∧ Clo w O vt 113 [ptr q, .int .u64 x]
  | .rs x v => ∃ vt, Clo w O t 155 [vt] ∧ Clo w O vt 113 [ptr q, .int .u64 x]
  | .ph x => ∃ v1 ve vt, Clo w O t 109 [v1] ∧ Clo w O v1 140 [ptr q, ve, vt] ∧ Clo w O ve 116 [ptr q] ∧ Clo w O vt 117 [ptr q, .int .u64 x, .int .i64 (m.c.s - x % m.c.s)]
  | .ps x v => ∃ vt, Clo w O t 155 [vt] ∧ Clo w O vt 117 [ptr q, .int .u64 x, .int .i64 (m.c.s - x % m.c.s)]
  | .cs x pad => ∃ v1, Clo w O t 156 [v1] ∧ Clo w O v1 144 [ptr q, .int .u64 x, .int .i64 pad]
  | .pd x => ∃ v1, Clo w O t 155 [v1] ∧ Clo w O v1 147 [ptr q]
  | .wh a => ∃ v1, Clo w O t 155 [v1] ∧ Clo w O v1 157 [ptr q, .int .i64 a, .int .i32 m.c.n]
  | .wb a p l => False
  | .fi a => ∃ v1, Clo w O t 155 [v1] ∧ Clo w O v1 159 [ptr q]
/-- A put at block q; O: the blocks, but its own, that it looks into. -/
def PutAt (w : World) (O : Nat → Prop) (q : Nat) (m : PutM) (bv : Value) : Prop :=
  match m.pc with
  | .wb a p l => ∃ f0, InSt w O q p l f0 (m.rest bv) ∧ Clo w O f0 158 [ptr q, .int .i64 a, .int .i32 m.c.n]
  | _ => ∃ t, Mch w q m.want.acc t (m.rest bv) ∧ PClo w O q m t
def Gr (O : Nat → Prop) (w w' : World) : Nat → Prop := fun k => O k ∨ (w.heap.size ≤ k ∧ k < w'.heap.size)
def PutTo (w : World) (O : Nat → Prop) (q : Nat) (m : PutM) (bv : Value) (w' : World) : Prop := PutAt w' (Gr O w w') q m bv ∧ Keep (· = q) w w'
/-- A put at block q that does something. -/
structure PutW (w : World) (O : Nat → Prop) (q : Nat) (m : PutM) (bv : Value) : Prop where
  mch : Mch w q accZ .nilFunc (m.rest bv)
  rd : RdB w bv m.c.d
  ob : ∀ i, bv.ownBlock = some i → O i
  nq : ¬ O q
  ok : m.c.ok = true
theorem PutW.lt {w : World} {O : Nat → Prop} {q : Nat} {m : PutM} {bv : Value} (h : PutW w O q m bv) : q < w.heap.size := by
  exact Blk.lt h.mch
theorem PutW.keep {w w' : World} {O M : Nat → Prop} {q : Nat} {m : PutM} {bv : Value} (h : PutW w O q m bv) (k : Keep M w w') (hd : ∀ i, O i → ¬ M i) (hq : ¬ M q) : PutW w' O q m bv := by
  refine ⟨Blk.keep h.mch k hq, ?_, h.ob, h.nq, h.ok⟩
  rcases h.rd with h1 | h1 | ⟨b, off, cap, e1, e2, e3, e4⟩
  · exact .inl h1
  · exact .inr (.inl h1)
  · refine .inr <| .inr ⟨b, off, cap, e1, e2, e3, fun i hi => ?_⟩
    have hc := e4 i hi
    exact (k.cell _ (World.block_lt_of_cell? w _ hc) (hd _ (h.ob b (by rw [e1]; rfl)))).trans hc
theorem PutW.below {w w' : World} {O : Nat → Prop} {q : Nat} {m : PutM} {bv : Value} (h : PutW w O q m bv) (b : Below w.heap.size w w') : PutW w' O q m bv := h.keep (M := fun _ => False) (Below.keeps b) (fun _ _ => id) id
theorem PutTo.past {w w1 w' : World} {O : Nat → Prop} {q : Nat} {m : PutM} {bv : Value} (h : PutTo w1 O q m bv w') (k : Keep (· = q) w w1) (hm : ∀ O O' : Nat → Prop, (∀ i, O i → O' i) → PutAt w' O q m bv → PutAt w' O' q m bv) : PutTo w O q m bv w' := by
  refine ⟨hm _ _ (fun i hi => ?_) h.1, k.trans h.2⟩
  rcases hi with hi | hi
  · exact .inl hi
  · exact .inr ⟨Nat.le_trans k.size hi.1, hi.2⟩
theorem PClo.mono {w : World} {O O' : Nat → Prop} {q : Nat} {m : PutM} {t : Value} (h : PClo w O q m t) (hd : ∀ i, O i → O' i) : PClo w O' q m t := by
  unfold PClo at h ⊢
  split at h
  · exact h
  · obtain ⟨v1, h1, h2⟩ := h
    exact ⟨v1, h1.mono hd, h2.mono hd⟩
  · obtain ⟨v1, h1, h2⟩ := h
    exact ⟨v1, h1.mono hd, h2.mono hd⟩
  · obtain ⟨v1, ve, vt, h1, h2, h3, h4⟩ := h
    exact ⟨v1, ve, vt, h1.mono hd, h2.mono hd, h3.mono hd, h4.mono hd⟩
  · obtain ⟨v1, h1, h2⟩ := h
    exact ⟨v1, h1.mono hd, h2.mono hd⟩
  · obtain ⟨v1, ve, vt, h1, h2, h3, h4⟩ := h
    exact ⟨v1, ve, vt, h1.mono hd, h2.mono hd, h3.mono hd, h4.mono hd⟩
  · obtain ⟨v1, h1, h2⟩ := h
    exact ⟨v1, h1.mono hd, h2.mono hd⟩
  · obtain ⟨v1, h1, h2⟩ := h
    exact ⟨v1, h1.mono hd, h2.mono hd⟩
  · obtain ⟨v1, h1, h2⟩ := h
    exact ⟨v1, h1.mono hd, h2.mono hd⟩
  · obtain ⟨v1, h1, h2⟩ := h
    exact ⟨v1, h1.mono hd, h2.mono hd⟩
  · exact h
  · obtain ⟨v1, h1, h2⟩ := h
    exact ⟨v1, h1.mono hd, h2.mono hd⟩
theorem PClo.keep {w w' : World} {O M : Nat → Prop} {q : Nat} {m : PutM} {t : Value} (h : PClo w O q m t) (k : Keep M w w') (hd : ∀ i, O i → ¬ M i) : PClo w' O q m t := by
  unfold PClo at h ⊢
  split at h
  · exact h
  · obtain ⟨v1, h1, h2⟩ := h
    exact ⟨v1, h1.keep k hd, h2.keep k hd⟩
  · obtain ⟨v1, h1, h2⟩ := h
    exact ⟨v1, h1.keep k hd, h2.keep k hd⟩
  · obtain ⟨v1, ve, vt, h1, h2, h3, h4⟩ := h
    exact ⟨v1, ve, vt, h1.keep k hd, h2.keep k hd, h3.keep k hd, h4.keep k hd⟩
  · obtain ⟨v1, h1, h2⟩ := h
    exact ⟨v1, h1.keep k hd, h2.keep k hd⟩
  · obtain ⟨v1, ve, vt, h1, h2, h3, h4⟩ := h
    exact ⟨v1, ve, vt, h1.keep k hd, h2.keep k hd, h3.keep k hd, h4.keep k hd⟩
  · obtain ⟨v1, h1, h2⟩ := h
    exact ⟨v1, h1.keep k hd, h2.keep k hd⟩
  · obtain ⟨v1, h1, h2⟩ := h
    exact ⟨v1, h1.keep k hd, h2.keep k hd⟩
  · obtain ⟨v1, h1, h2⟩ := h
    exact ⟨v1, h1.keep k hd, h2.keep k hd⟩
  · obtain ⟨v1, h1, h2⟩ := h
    exact ⟨v1, h1.keep k hd, h2.keep k hd⟩
  · exact h
  · obtain ⟨v1, h1, h2⟩ := h
    exact ⟨v1, h1.keep k hd, h2.keep k hd⟩
theorem PutAt.mono {w : World} {O O' : Nat → Prop} {q : Nat} {m : PutM} {bv : Value} (h : PutAt w O q m bv) (hd : ∀ i, O i → O' i) : PutAt w O' q m bv := by
  unfold PutAt at h ⊢
  split at h
  · obtain ⟨f0, h1, h2⟩ := h
    exact ⟨f0, h1.mono hd, h2.mono hd⟩
  · obtain ⟨t, h1, h2⟩ := h
    exact ⟨t, h1, h2.mono hd⟩
theorem PutAt.keep {w w' : World} {O M : Nat → Prop} {q : Nat} {m : PutM} {bv : Value} (h : PutAt w O q m bv) (k : Keep M w w') (hd : ∀ i, O i → ¬ M i) (hq : ¬ M q) : PutAt w' O q m bv := by
  unfold PutAt at h ⊢
  split at h
  · obtain ⟨f0, h1, h2⟩ := h
    exact ⟨f0, h1.keep k hd hq, h2.keep k hd⟩
  · obtain ⟨t, h1, h2⟩ := h
    exact ⟨t, Blk.keep h1 k hq, h2.keep k hd⟩
theorem PutAt.made {w : World} {O : Nat → Prop} {q : Nat} {m : PutM} {bv t : Value} (hpc : ∀ a p l, m.pc ≠ .wb a p l) (h : Mch w q m.want.acc t (m.rest bv)) (hc : PClo w O q m t) : PutAt w O q m bv := by
  unfold PutAt
  split
  · rename_i a p l e
    exact absurd e (hpc a p l)
  · exact ⟨t, h, hc⟩
theorem PutTo.after {w w1 w' : World} {O : Nat → Prop} {q : Nat} {m : PutM} {bv : Value} (h : PutTo w1 O q m bv w') (k : Keep (· = q) w w1) : PutTo w O q m bv w' :=
  h.past k (fun _ _ hd h => h.mono hd)
/-- Its numbers' bounds. -/
theorem PutW.bd {w : World} {O : Nat → Prop} {q : Nat} {m : PutM} {bv : Value} (h : PutW w O q m bv) :
    (m.c.s = 64 ∨ m.c.s = 128 ∨ m.c.s = 256 ∨ m.c.s = 512 ∨ m.c.s = 1024 ∨ m.c.s = 2048 ∨ m.c.s = 4096 ∨ m.c.s = 8192) ∧ isP m.c.s = true ∧ 64 ≤ m.c.s ∧ m.c.s ≤ 8192 ∧ 0 ≤ m.c.b ∧ m.c.b ≤ 131040 - m.c.s ∧ 8 ≤ m.c.nd ∧ m.c.nd ≤ 1040 ∧ m.c.d.length ≤ 1024 := by
  obtain ⟨h1, h2, h3⟩ := PutC.ok_bd h.ok
  obtain ⟨a1, a2, a3, a4, a5, a6⟩ := rgOk_bd h1
  obtain ⟨b1, b2, b3⟩ := PutC.nd_bd h.ok
  refine ⟨rg_pow a1 a2 a3, a1, a2, a3, a4, a6, ?_, ?_, ?_⟩ <;> omega
set_option maxHeartbeats 1000000 in
theorem pEnd_any {O : Nat → Prop} {q : Nat} {m : PutM} {bv : Value} (w : World) (h : PutW w O q m bv) :
    Calls Try.prog 69 #[.pointer (some ⟨q, 0, none⟩)] w fun e w' => e = .returned (.int .i64 m.end) ∧ Below w.heap.size w w' := by
  obtain ⟨b0, b1, b2, b3, b4, b5, b6, b7, b8⟩ := h.bd
  have hlt := h.lt
  obtain ⟨c7, c8, _⟩ := put_cells h.mch
  have W : IntKind.i64.wrap (m.c.b + m.c.s) = m.c.b + m.c.s := IntWalk.i64_in _ ⟨by omega, by omega⟩
  have HE := Lib.hid (show m.end = m.c.b + m.c.s from rfl)
  clear h b0 b1
  go_enter Try.func69, Try.ntmps69
  go_wp2
  go_quiet (fail)
  go_wp2
  go_ret
  exact ⟨by rw [HE.out]; rfl, bel_drewN _ (Below.refl _ _)⟩
set_option maxHeartbeats 1000000 in
theorem pPlace_any {O : Nat → Prop} {q : Nat} {m : PutM} {bv : Value} (v : Int) (w : World) (h : PutW w O q m bv) :
    Calls Try.prog 114 #[.pointer (some ⟨q, 0, none⟩), .int .u64 v] w fun e w' => e = .returned (.int .i64 (v % m.c.s)) ∧ w = w' := by
  obtain ⟨b0, b1, b2, b3, b4, b5, b6, b7, b8⟩ := h.bd
  have hlt := h.lt
  obtain ⟨c7, c8, _⟩ := put_cells h.mch
  have HM := Lib.hid (show mkS (wrap64 v) m.c.s = v % m.c.s by unfold mkS; rw [if_pos b1, show wrap64 v = s64 v by unfold wrap64 s64; rfl]; exact s64_mod b0 v)
  clear h b0 b1
  go_enter Try.func114, Try.ntmps114
  go_wp2_with fail
  refine (mask_any _ _ _ (by omega)).mono ?_
  rintro e w' ⟨rfl, rfl⟩
  go_wp2
  go_ret
  exact ⟨by rw [← HM.out]; rfl, rfl⟩
theorem PutW.drew {w : World} {O : Nat → Prop} {q : Nat} {m : PutM} {bv : Value} (h : PutW w O q m bv) : PutW w.drew O q m bv := h.below (bel_drewN 1 (Below.refl _ _))
theorem PutW.alloc {w : World} {O : Nat → Prop} {q : Nat} {m : PutM} {bv : Value} (h : PutW w O q m bv) (o : Obj) : PutW (w.alloc o) O q m bv := h.below ((Below.refl _ _).alloc (Nat.le_refl _) _)
set_option maxHeartbeats 1000000 in
theorem pTail_any {O : Nat → Prop} {q : Nat} {m : PutM} {bv : Value} (w : World) (h : PutW w O q m bv) :
    Calls Try.prog 71 #[.pointer (some ⟨q, 0, none⟩)] w fun e w' => e = .returned (.tuple #[]) ∧ PutTo w O q { m with pc := .tl } bv w' := by
  have hlt := h.lt
  have H := Lib.hid h
  clear h
  go_enter Try.func71, Try.ntmps71
  go_wp2_with fail
  go_region_held3 (fun w' => w'.cell? ⟨w.heap.size, 0, none⟩ = some (.pointer (some ⟨q, 0, none⟩))) (first | go_keep | trivial)
    (first
      | (go_at_call 69; refine (pEnd_any _ ((H.out.alloc _).drew)).mono ?_; rintro e w2 ⟨rfl, b2⟩; have hc := fun o => b2.cell (p := ⟨w.heap.size, o, none⟩) (by simp))
      | (go_at_call 68; refine (cLoad_any q _ _ _ m.end 8 _ _ _ (((H.out.alloc _).drew).below b2).mch).mono ?_; rintro e w3 ⟨rfl, t3, m3, l3, k3⟩; have hc3 := fun o => k3.cell (b := w.heap.size) o (by have := b2.size; simp at this; omega) (by show ¬ w.heap.size = q; omega)))
  all_goals
    have z2 := b2.size
    have z3 := k3.size
    simp at z2
    clear hc hc3
    go_wp2
    go_end0
    refine ⟨rfl, PutAt.made (by nofun) m3 ⟨_, l3.mono (fun i hi => .inr ⟨by omega, hi.2⟩), Clo.mk1 ?_ (.inr ⟨Nat.le_refl _, by omega⟩)⟩, ?_⟩
    · exact (((Blk.made w _ _).drew).below b2 (by simp)).keep k3 (by show ¬ w.heap.size = q; omega)
    · exact ((((Keep.refl _ w).alloc _).drew).trans (Below.keeps b2)).trans k3
set_option maxHeartbeats 1000000 in
theorem pClaim_any {O : Nat → Prop} {q : Nat} {m : PutM} {bv : Value} (t pad : Int) (w : World) (h : PutW w O q m bv) (hp0 : 0 ≤ pad) (hp1 : pad ≤ 8192) :
    Calls Try.prog 115 #[.pointer (some ⟨q, 0, none⟩), .int .u64 t, .int .i64 pad] w fun e w' => e = .returned (.tuple #[]) ∧ PutTo w O q { m with pc := .cs t pad } bv w' := by
  have hlt := h.lt
  have H := Lib.hid h
  obtain ⟨b0, b1, b2, b3, b4, b5, b6, b7, b8⟩ := h.bd
  obtain ⟨_, _, _, _, c11, _⟩ := put_cells h.mch
  have W1 : IntKind.i64.wrap (m.c.nd + pad) = m.c.nd + pad := IntWalk.i64_in _ ⟨by omega, by omega⟩
  have W2 : IntKind.u64.wrap (m.c.nd + pad) = m.c.nd + pad := IntWalk.u64_in _ ⟨by omega, by omega⟩
  have W3 : IntKind.u64.wrap (t + (m.c.nd + pad)) = u64 (t + (m.c.nd + pad)) := wrap_u64' _
  clear h b0 b1
  go_enter Try.func115, Try.ntmps115
  go_wp2_with fail
  obtain ⟨w3, hw3, x0, x1, x2, hs3, bb3⟩ := pbox3 w (.pointer (some ⟨q, 0, none⟩)) (.int .u64 t) (.int .i64 pad) 68 45 2
  rw [← hw3]
  have X0 := Lib.hid x0
  have X1 := Lib.hid x1
  have X2 := Lib.hid x2
  have B3 := Lib.hid bb3
  have p0 := x0.cell 0
  have p1 := x1.cell 0
  have p2 := x2.cell 0
  have d11 := (bb3.cell (p := ⟨q, 11, none⟩) hlt).trans c11
  simp only [List.getElem?_cons_zero] at p0 p1 p2
  clear hw3 x0 x1 x2 bb3 c11
  go_region_held3 (fun w' => w'.cell? ⟨w.heap.size, 0, none⟩ = some (.pointer (some ⟨q, 0, none⟩)) ∧ w'.cell? ⟨w.heap.size + 1, 0, none⟩ = some (.int .u64 t) ∧ w'.cell? ⟨w.heap.size + 1 + 1, 0, none⟩ = some (.int .i64 pad) ∧ w'.cell? ⟨q, 11, none⟩ = some (.int .i64 m.c.nd)) (first | go_keep | trivial)
    (first
      | (go_at_call 69; refine (pEnd_any _ ((H.out.below B3.out).drew)).mono ?_; rintro e w4 ⟨rfl, b4⟩; have hc0 := fun o => b4.cell (p := ⟨w.heap.size, o, none⟩) (by simp; omega); have hc1 := fun o => b4.cell (p := ⟨w.heap.size + 1, o, none⟩) (by simp; omega); have hc2 := fun o => b4.cell (p := ⟨w.heap.size + 1 + 1, o, none⟩) (by simp; omega); have hc3 := fun o => b4.cell (p := ⟨q, o, none⟩) (by simp; omega))
      | (go_at_call 143; refine (cCas_any q _ _ _ m.end 8 _ _ _ _ _ (((H.out.below B3.out).drew).below b4).mch).mono ?_; rintro e w5 ⟨rfl, t5, m5, l5, k5⟩; have hd0 := fun o => k5.cell (b := w.heap.size) o (by have := b4.size; simp at this; omega) (by show ¬ w.heap.size = q; omega); have hd1 := fun o => k5.cell (b := w.heap.size + 1) o (by have := b4.size; simp at this; omega) (by show ¬ w.heap.size + 1 = q; omega); have hd2 := fun o => k5.cell (b := w.heap.size + 1 + 1) o (by have := b4.size; simp at this; omega) (by show ¬ w.heap.size + 1 + 1 = q; omega); have hd3 := (put_cells m5).2.2.2.2.1))
  all_goals
    have z4 := b4.size
    have z5 := k5.size
    simp at z4
    clear hc0 hc1 hc2 hc3 hd0 hd1 hd2 hd3
    go_wp2
    go_end0
    refine ⟨rfl, PutAt.made (by nofun) m5 ⟨_, l5.mono (fun i hi => .inr ⟨by omega, hi.2⟩), Clo.mk3 ?_ (.inr ⟨Nat.le_refl _, by omega⟩) ?_ (.inr ⟨by omega, by omega⟩) ?_ (.inr ⟨by omega, by omega⟩)⟩, ?_⟩
    · exact ((X0.out.drew).below b4 (by simp; omega)).keep k5 (by show ¬ w.heap.size = q; omega)
    · exact ((X1.out.drew).below b4 (by simp; omega)).keep k5 (by show ¬ w.heap.size + 1 = q; omega)
    · exact ((X2.out.drew).below b4 (by simp; omega)).keep k5 (by show ¬ w.heap.size + 1 + 1 = q; omega)
    · exact (((Below.keeps B3.out).drew).trans (Below.keeps b4)).trans k5
theorem PutW.put {w : World} {O : Nat → Prop} {q : Nat} {m m' : PutM} {bv : Value} (h : PutW w O q m bv) (i : Nat) (u : Value) (hc : m'.c = m.c) (hm : (accZ.cs ++ Value.nilFunc :: m.rest bv).set i u = accZ.cs ++ Value.nilFunc :: m'.rest bv) : PutW (w.setCell ⟨q, i, none⟩ u) O q m' bv := by
  have k : Keep (· = q) w (w.setCell ⟨q, i, none⟩ u) := Keep.setCell (M := (· = q)) (Keep.refl _ w) (p := ⟨q, i, none⟩) (.inl rfl) _
  refine ⟨?_, ?_, h.ob, h.nq, by rw [hc]; exact h.ok⟩
  · have := Blk.set h.mch i u
    rw [hm] at this
    exact this
  · rw [hc]
    rcases h.rd with h1 | h1 | ⟨b, off, cap, e1, e2, e3, e4⟩
    · exact .inl h1
    · exact .inr (.inl h1)
    · refine .inr <| .inr ⟨b, off, cap, e1, e2, e3, fun i hi => ?_⟩
      have hc := e4 i hi
      exact (k.cell _ (World.block_lt_of_cell? w _ hc) (fun e => h.nq (e ▸ h.ob b (by rw [e1]; rfl)))).trans hc
set_option maxHeartbeats 1000000 in
theorem pStop_any {O : Nat → Prop} {q : Nat} {m : PutM} {bv : Value} (e0 : Int) (w : World) (h : PutW w O q m bv) :
    Calls Try.prog 141 #[.pointer (some ⟨q, 0, none⟩), .int .i64 e0] w fun e w' => e = .returned (.tuple #[]) ∧ PutW w' O q { m with e := e0 } bv ∧ Keep (· = q) w w' := by
  have hlt := h.lt
  have H := Lib.hid h
  have c15 := Blk.cell h.mch 15
  have f15 := Blk.frozen h.mch 15
  clear h
  go_enter Try.func141, Try.ntmps141
  go_wp2
  go_end0
  exact ⟨rfl, H.out.put 15 _ rfl rfl, Keep.setCell (M := (· = q)) (Keep.refl _ w) (p := ⟨q, 15, none⟩) (.inl rfl) _⟩
set_option maxHeartbeats 2000000 in
theorem pLook_any {O : Nat → Prop} {q : Nat} {m : PutM} {bv : Value} (ge gt : Nat) (gce gct : Array Value) (en : Bool) (w : World) (h : PutW w O q m bv) (hee : En ge) (het : En gt) (Q : World → Prop)
    (he : ∀ w1, Below w.heap.size w w1 → Calls Try.prog ge gce w1 fun e w' => e = .returned (.bool en) ∧ Below w1.heap.size w1 w')
    (ht : en = true → ∀ w1, Below w.heap.size w w1 → Calls Try.prog gt gct w1 fun e w' => e = .returned (.tuple #[]) ∧ Q w')
    (hl : en = false → ∀ w' t' v1, Mch w' q ⟨1, m.end + 16, 8, 0, 0, .slice none 0 0⟩ t' (m.rest bv) → Clo w' (fun k => w.heap.size ≤ k ∧ k < w'.heap.size) t' 109 [v1] → Clo w' (fun k => w.heap.size ≤ k ∧ k < w'.heap.size) v1 140 [ptr q, .func (.func ge) #[] gce, .func (.func gt) #[] gct] → Keep (· = q) w w' → Q w') :
    Calls Try.prog 112 #[.pointer (some ⟨q, 0, none⟩), .func (.func ge) #[] gce, .func (.func gt) #[] gct] w fun e w' => e = .returned (.tuple #[]) ∧ Q w' := by
  have hlt := h.lt
  have H := Lib.hid h
  obtain ⟨b0, b1, b2, b3, b4, b5, b6, b7, b8⟩ := h.bd
  have hE : 64 ≤ m.end ∧ m.end ≤ 131040 := by unfold PutM.end; omega
  have W1 : IntKind.i64.wrap (m.end + 16) = m.end + 16 := IntWalk.i64_in _ ⟨by omega, by omega⟩
  have HE := Lib.hid he
  have HT := Lib.hid ht
  have HL := Lib.hid hl
  unfold En at hee het
  clear h he ht hl b0 b1 b2 b3 b4 b5 b6 b7 b8 hE
  go_enter Try.func112, Try.ntmps112
  go_wp2_with fail
  obtain ⟨w3, hw3, x0, x1, x2, hs3, bb3⟩ := pbox3 w (.pointer (some ⟨q, 0, none⟩)) (.func (.func ge) #[] gce) (.func (.func gt) #[] gct) 68 24 1
  rw [← hw3]
  have X0 := Lib.hid x0
  have X1 := Lib.hid x1
  have X2 := Lib.hid x2
  have B3 := Lib.hid bb3
  clear hw3 x0 x1 x2 bb3
  refine (HE.out _ B3.out).mono ?_
  rintro e w4 ⟨rfl, b4⟩
  have B4 := Lib.hid b4
  have z4 := b4.size
  have p0 := (X0.out.below b4 (by omega)).cell 0
  have p2 := (X2.out.below b4 (by omega)).cell 0
  simp only [List.getElem?_cons_zero] at p0 p2
  clear b4
  cases en with
  | true =>
    go_wp2_with fail
    refine (HT.out (by trivial) _ (B3.out.trans (B4.out.mono (by omega)))).mono ?_
    rintro e w5 ⟨rfl, hQ⟩
    go_wp2
    exact bodyPost_ret (v := .tuple #[]) (results_none rfl _ _ _) rfl ⟨rfl, hQ⟩
  | false =>
    go_wp2_with fail
    go_region_held3 (fun w' => w'.cell? ⟨w.heap.size, 0, none⟩ = some (.pointer (some ⟨q, 0, none⟩))) (first | go_keep | trivial)
      (first
        | (go_at_call 69; refine (pEnd_any _ (((H.out.below B3.out).below B4.out).drew)).mono ?_; rintro e w5 ⟨rfl, b5⟩; have hc := fun o => b5.cell (p := ⟨w.heap.size, o, none⟩) (by simp; omega))
        | (go_at_call 68; refine (cLoad_any q _ _ _ _ 8 _ _ _ ((((H.out.below B3.out).below B4.out).drew).below b5).mch).mono ?_; rintro e w6 ⟨rfl, t6, m6, l6, k6⟩; have hc6 := fun o => k6.cell (b := w.heap.size) o (by have := b5.size; simp at this; omega) (by show ¬ w.heap.size = q; omega)))
    all_goals
      have z5 := b5.size
      have z6 := k6.size
      simp at z5
      clear hc hc6
      go_wp2
      go_end0
      refine ⟨rfl, HL.out (by trivial) _ t6 _ m6 (l6.mono (fun i hi => ⟨by omega, hi.2⟩)) (Clo.mk3 ?_ ⟨by omega, by omega⟩ ?_ ⟨by omega, by omega⟩ ?_ ⟨by omega, by omega⟩) ?_⟩
      · exact (((X0.out.below B4.out (by omega)).drew).below b5 (by simp; omega)).keep k6 (by show ¬ w.heap.size = q; omega)
      · exact (((X1.out.below B4.out (by omega)).drew).below b5 (by simp; omega)).keep k6 (by show ¬ w.heap.size + 1 = q; omega)
      · exact (((X2.out.below B4.out (by omega)).drew).below b5 (by simp; omega)).keep k6 (by show ¬ w.heap.size + 1 + 1 = q; omega)
      · exact ((((Below.keeps B3.out).trans (Below.keeps B4.out)).drew).trans (Below.keeps b5)).trans k6
set_option maxHeartbeats 2000000 in
theorem pLookK_any {O : Nat → Prop} {q : Nat} {m : PutM} {bv : Value} (v : Int) (ge gt : Nat) (gce gct : Array Value) (en : Bool) (pb eb tb : Nat) (w : World) (h : PutW w O q m bv) (hee : En ge)
    (hpb : Blk w pb [ptr q]) (heb : Blk w eb [.func (.func ge) #[] gce]) (htb : Blk w tb [.func (.func gt) #[] gct]) (hn : pb ≠ q ∧ eb ≠ q ∧ tb ≠ q)
    (he : ∀ w1, PutW w1 O q { m with hd := v } bv → Keep (· = q) w w1 → Calls Try.prog ge gce w1 fun e w' => e = .returned (.bool en) ∧ Below w1.heap.size w1 w') :
    Calls Try.prog 140 #[.int .u64 v, ptr pb, ptr eb, ptr tb] w fun e w' => e = .returned (.tuple #[]) ∧ Keep (· = q) w w' ∧
      (en = true → ∃ t', Mch w' q ⟨2, m.end + 8, 8, v, 0, .slice none 0 0⟩ t' (({ m with hd := v } : PutM).rest bv) ∧ Clo w' (fun k => w.heap.size ≤ k ∧ k < w'.heap.size) t' 155 [.func (.func gt) #[] gct]) ∧
      (en = false → Mch w' q accZ .nilFunc (({ m with hd := v, e := 5 } : PutM).rest bv)) := by
  have hlt := h.lt
  have H := Lib.hid h
  obtain ⟨b0, b1, b2, b3, b4, b5, b6, b7, b8⟩ := h.bd
  have hE : 64 ≤ ({ m with hd := v } : PutM).end ∧ ({ m with hd := v } : PutM).end ≤ 131040 := by unfold PutM.end; dsimp only; omega
  have W1 : IntKind.i64.wrap (({ m with hd := v } : PutM).end + 8) = ({ m with hd := v } : PutM).end + 8 := IntWalk.i64_in _ ⟨by omega, by omega⟩
  have HE := Lib.hid he
  have P0 := Lib.hid hpb
  have P1 := Lib.hid heb
  have P2 := Lib.hid htb
  have p0 := hpb.cell 0
  have p1 := heb.cell 0
  have p2 := htb.cell 0
  have l0 := hpb.lt
  have l1 := heb.lt
  have l2 := htb.lt
  simp only [List.getElem?_cons_zero, ptr] at p0 p1 p2
  obtain ⟨n0, n1, n2⟩ := hn
  have c12 := Blk.cell h.mch 12
  have f12 := Blk.frozen h.mch 12
  unfold En at hee
  unfold ptr
  clear h he b0 b1 b2 b3 b4 b5 b6 b7 b8 hE hpb heb htb
  go_enter Try.func140, Try.ntmps140
  go_wp2_with fail
  have K1 := Lib.hid (Keep.setCell (M := (· = q)) (Keep.refl _ w) (p := ⟨q, 12, none⟩) (.inl rfl) (.int .u64 v))
  have H1 := Lib.hid (H.out.put (m' := { m with hd := v }) 12 (.int .u64 v) rfl rfl)
  refine (HE.out _ H1.out K1.out).mono ?_
  rintro e w4 ⟨rfl, b4⟩
  have B4 := Lib.hid b4
  have z4 := b4.size
  simp at z4
  have H4 := Lib.hid (H1.out.below b4)
  have k4 := K1.out.trans (Below.keeps b4)
  have p0' := (k4.cell (b := pb) 0 l0 n0).trans p0
  have p2' := (k4.cell (b := tb) 0 l2 n2).trans p2
  have K4 := Lib.hid k4
  clear b4 k4 p0 p1 p2 c12 f12
  cases en with
  | true =>
    go_wp2_with fail
    go_region_held3 (fun w' => w'.cell? ⟨pb, 0, none⟩ = some (.pointer (some ⟨q, 0, none⟩)) ∧ w'.cell? ⟨tb, 0, none⟩ = some (.func (.func gt) #[] gct)) (first | go_keep | trivial)
      (first
        | (go_at_call 69; refine (pEnd_any (m := { m with hd := v }) _ (H4.out.drew)).mono ?_; rintro e w5 ⟨rfl, b5⟩; have hc := fun o => b5.cell (p := ⟨pb, o, none⟩) (by simp; omega); have hc' := fun o => b5.cell (p := ⟨tb, o, none⟩) (by simp; omega))
        | (go_at_call 142; refine (cStore_any q _ _ _ _ 8 v _ _ _ ((H4.out.drew).below b5).mch).mono ?_; rintro e w6 ⟨rfl, t6, m6, l6, k6⟩; have hc6 := fun o => k6.cell (b := pb) o (by have := b5.size; simp at this; omega) n0; have hc6' := fun o => k6.cell (b := tb) o (by have := b5.size; simp at this; omega) n2))
    all_goals
      have z5 := b5.size
      have z6 := k6.size
      simp at z5
      clear hc hc' hc6 hc6'
      go_wp2
      go_end0
      refine ⟨rfl, ((K4.out.drew).trans (Below.keeps b5)).trans k6, ?_⟩
      exact ⟨t6, m6, l6.mono (fun i hi => ⟨by omega, hi.2⟩)⟩
  | false =>
    go_wp2_with fail
    refine (pStop_any 5 _ H4.out).mono ?_
    rintro e w5 ⟨rfl, h5, k5⟩
    go_wp2
    refine bodyPost_ret (v := .tuple #[]) (results_none rfl _ _ _) rfl ?_
    first | exact ⟨rfl, K4.out.trans k5, h5.mch⟩ | exact ⟨rfl, K4.out.trans k5, trivial, h5.mch⟩ | exact ⟨rfl, K4.out.trans k5, nofun, fun _ => h5.mch⟩
end Go.Proofs.Ytpicplkbblmbeaa
