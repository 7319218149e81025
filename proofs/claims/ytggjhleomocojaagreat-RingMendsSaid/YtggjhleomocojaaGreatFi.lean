/- A fix in memory: its closures; New, Next, Take, Result; fixes as a family of machines. Conditions: as each says. -/
import Derived.Test.YtggjhleomocojaaGreatGo
import Derived.Test.YtggjhleomocojaaGreatKe
import Derived.Test.YtggjhleomocojaaGreatQb
namespace Go.Proofs.YtggjhleomocojaaGreat
set_option maxRecDepth 100000
open Go.RowKit
set_option linter.unusedVariables false
set_option linter.unusedSimpArgs false
def FixM.rest (m : FixM) : List Value := [.int .i64 m.c.b, .int .i64 m.c.s, .int .i64 m.first, .int .i64 m.last, .int .i64 m.n, .int .i64 m.e]
variable {q : Nat} {t : Value} {m : FixM}
theorem fix_cells {w : World} {c : Acc} (h : Mch w q c t m.rest) :
  w.cell? ⟨q, 7, none⟩ = some (.int .i64 m.c.b) ∧ w.cell? ⟨q, 8, none⟩ = some (.int .i64 m.c.s) ∧ w.cell? ⟨q, 9, none⟩ = some (.int .i64 m.first) ∧ w.cell? ⟨q, 10, none⟩ = some (.int .i64 m.last) ∧ w.cell? ⟨q, 11, none⟩ = some (.int .i64 m.n) ∧ w.cell? ⟨q, 12, none⟩ = some (.int .i64 m.e) :=
 ⟨Blk.cell h 7, Blk.cell h 8, Blk.cell h 9, Blk.cell h 10, Blk.cell h 11, Blk.cell h 12⟩
def FClo (w : World) (O : Nat → Prop) (q : Nat) (m : FixM) (t : Value) : Prop :=
 match m.pc with
 | .done => t = .nilFunc
 | .h0 => ∃ v1, Clo w O t 73 [v1] ∧ Clo w O v1 123 [ptr q, .int .i64 (m.c.b + m.c.s)]
 | .t0 h => ∃ v1, Clo w O t 73 [v1] ∧ Clo w O v1 124 [ptr q, .int .u64 h]
 | .lk => Clo w O t 73 [.func (.func 155) #[ptr q] #[]]
 | .ah a => ∃ v1, Clo w O t 73 [v1] ∧ Clo w O v1 171 [ptr q, .int .i64 a]
 | .bk a f => ∃ v1, Clo w O t 73 [v1] ∧ Clo w O v1 174 [ptr q, .int .i64 a, .int .i64 f]
 | .pd n => ∃ v1, Clo w O t 107 [v1] ∧ Clo w O v1 170 [.int .i64 n, ptr q]
def FixAt (w : World) (O : Nat → Prop) (q : Nat) (m : FixM) : Prop := ∃ t, Mch w q m.want.acc t m.rest ∧ FClo w O q m t
def FixTo (w : World) (O : Nat → Prop) (q : Nat) (m : FixM) (w' : World) : Prop := FixAt w' (Gr O w w') q m ∧ Keep (· = q) w w'
structure FixW (w : World) (O : Nat → Prop) (q : Nat) (m : FixM) : Prop where
 mch : Mch w q accZ .nilFunc m.rest
 nq : ¬ O q
 ok : rgOk m.c.b m.c.s = true
variable {O : Nat → Prop}
theorem FixW.lt {w : World} (h : FixW w O q m) : q < w.heap.size := Blk.lt h.mch
variable {w w' : World}
theorem FixW.keep {O M : Nat → Prop} (h : FixW w O q m) (k : Keep M w w') (hq : ¬ M q) : FixW w' O q m := ⟨Blk.keep h.mch k hq, h.nq, h.ok⟩
theorem FixW.below (h : FixW w O q m) (b : Below w.heap.size w w') : FixW w' O q m := h.keep (M := fun _ => False) (Below.keeps b) id
theorem FixW.drew {w : World} (h : FixW w O q m) : FixW w.drew O q m := h.below (bel_drewN 1 (Below.refl _ _))
theorem FixW.put {w : World} {m m' : FixM} (h : FixW w O q m) (i : Nat) (u : Value) (hc : m'.c = m.c) (hm : (accZ.cs ++ Value.nilFunc :: m.rest).set i u = accZ.cs ++ Value.nilFunc :: m'.rest) : FixW (w.setCell ⟨q, i, none⟩ u) O q m' := by
 refine ⟨?_, h.nq, by rw [hc]; exact h.ok⟩
 have := Blk.set h.mch i u
 rw [hm] at this
 exact this
theorem FixW.bd {w : World} (h : FixW w O q m) :
  (m.c.s = 64 ∨ m.c.s = 128 ∨ m.c.s = 256 ∨ m.c.s = 512 ∨ m.c.s = 1024 ∨ m.c.s = 2048 ∨ m.c.s = 4096 ∨ m.c.s = 8192) ∧ isP m.c.s = true ∧ 64 ≤ m.c.s ∧ m.c.s ≤ 8192 ∧ 0 ≤ m.c.b ∧ m.c.b ≤ 131040 - m.c.s := by
 obtain ⟨a1, a2, a3, a4, a5, a6⟩ := rgOk_bd h.ok
 exact ⟨rg_pow a1 a2 a3, a1, a2, a3, a4, a6⟩
theorem FClo.mono {w : World} {O O' : Nat → Prop} (h : FClo w O q m t) (hd : ∀ i, O i → O' i) : FClo w O' q m t := by
 unfold FClo at h ⊢
 split at h
 ·exact h
 all_goals first
  | exact h.mono hd
  | (obtain ⟨v1, h1, h2⟩ := h; exact ⟨v1, h1.mono hd, h2.mono hd⟩)
theorem FClo.keep {O M : Nat → Prop} (h : FClo w O q m t) (k : Keep M w w') (hd : ∀ i, O i → ¬ M i) : FClo w' O q m t := by
 unfold FClo at h ⊢
 split at h
 ·exact h
 all_goals first
  | exact h.keep k hd
  | (obtain ⟨v1, h1, h2⟩ := h; exact ⟨v1, h1.keep k hd, h2.keep k hd⟩)
theorem FixAt.mono {w : World} {O O' : Nat → Prop} (h : FixAt w O q m) (hd : ∀ i, O i → O' i) : FixAt w O' q m := by
 obtain ⟨t, h1, h2⟩ := h
 exact ⟨t, h1, h2.mono hd⟩
theorem FixAt.keep {O M : Nat → Prop} (h : FixAt w O q m) (k : Keep M w w') (hd : ∀ i, O i → ¬ M i) (hq : ¬ M q) : FixAt w' O q m := by
 obtain ⟨t, h1, h2⟩ := h
 exact ⟨t, Blk.keep h1 k hq, h2.keep k hd⟩
theorem FixTo.from {w w1 w' : World} {O O1 : Nat → Prop} (h : FixTo w1 O1 q m w') (k : Keep (· = q) w w1) (hO : ∀ i, O1 i → O i ∨ (w.heap.size ≤ i ∧ i < w1.heap.size)) : FixTo w O q m w' := by
 have z := h.2.size
 refine ⟨h.1.mono (fun i hi => ?_), k.trans h.2⟩
 rcases hi with hi | hi
 ·rcases hO i hi with h | h
  ·exact .inl h
  ·exact .inr ⟨h.1, by omega⟩
 ·exact .inr ⟨Nat.le_trans k.size hi.1, hi.2⟩
theorem FixTo.after {w w1 w' : World} (h : FixTo w1 O q m w') (k : Keep (· = q) w w1) : FixTo w O q m w' := h.from k (fun i hi => .inl hi)
set_option maxHeartbeats 1000000 in
theorem fStop_any (w : World) (h : FixW w O q m) :
  Calls Tryz.prog 154 #[.pointer (some ⟨q, 0, none⟩)] w fun e w' => e = .returned (.tuple #[]) ∧ FixTo w O q m.stop w' := by
 have hlt := h.lt
 have H := Lib.hid h
 have c12 := Blk.cell h.mch 12
 have f12 := Blk.frozen h.mch 12
 clear h
 go_enter Tryz.func154, Tryz.ntmps154
 go_wp2
 go_end0
 exact ⟨rfl, ⟨.nilFunc, (H.out.put (m' := { m with e := 0 }) 12 (.int .i64 0) rfl rfl).mch, rfl⟩, Keep.setCell (M := (· = q)) (Keep.refl _ w) (p := ⟨q, 12, none⟩) (.inl rfl) _⟩
set_option maxHeartbeats 2000000 in
theorem fPad_any (n : Int) (w : World) (h : FixW w O q m) (hn0 : 0 < n) (hn1 : n ≤ 8192) (hf0 : 0 ≤ m.first) (hf1 : m.first ≤ 8192) :
  Calls Tryz.prog 167 #[.pointer (some ⟨q, 0, none⟩), .int .i64 n] w fun e w' => e = .returned (.tuple #[]) ∧ FixTo w O q { m with pc := .pd n } w' := by
 have hlt := h.lt
 have H := Lib.hid h
 obtain ⟨b0, b1, b2, b3, b4, b5⟩ := h.bd
 obtain ⟨c7, c8, c9, _⟩ := fix_cells h.mch
 have W1 : IntKind.i64.wrap (m.c.b + m.first) = m.c.b + m.first := IntWalk.i64_in _ ⟨by omega, by omega⟩
 have W2 : IntKind.i32.wrap n = n := IntWalk.i32_in _ ⟨by omega, by omega⟩
 clear h b0 b1
 go_enter Tryz.func167, Tryz.ntmps167
 go_upto_region 1 with fail
 obtain ⟨w2, hw2, x0, x1, hs2, bb2⟩ := pbox2 w (.pointer (some ⟨q, 0, none⟩)) (.int .i64 n) 159 3
 rw [← hw2]
 have X0 := Lib.hid x0
 have X1 := Lib.hid x1
 have B2 := Lib.hid bb2
 have p0 := x0.cell 0
 have p1 := x1.cell 0
 have d7 := (bb2.cell (p := ⟨q, 7, none⟩) hlt).trans c7
 have d9 := (bb2.cell (p := ⟨q, 9, none⟩) hlt).trans c9
 simp only [List.getElem?_cons_zero] at p0 p1
 clear hw2 x0 x1 bb2 c7 c8 c9
 have H2 := Lib.hid (H.out.below B2.out)
 go_region_held3 (fun w' => w'.cell? ⟨w.heap.size, 0, none⟩ = some (.pointer (some ⟨q, 0, none⟩)) ∧ w'.cell? ⟨w.heap.size + 1, 0, none⟩ = some (.int .i64 n) ∧ w'.cell? ⟨q, 7, none⟩ = some (.int .i64 m.c.b) ∧ w'.cell? ⟨q, 9, none⟩ = some (.int .i64 m.first)) (first | go_keep | trivial)
  (first
   | (go_at_call 78; refine (record_any n (-1) _).mono ?_; rintro e w3 ⟨rfl, rfl⟩)
   | (go_at_call 74; refine (cStore_any q _ _ _ (m.c.b + m.first) 8 _ _ _ _ (H2.out.below (by go_grown)).mch).mono ?_; rintro e w5 ⟨rfl, t5, m5, l5, k5⟩; have hd0 := fun o => k5.cell (b := w.heap.size) o (by simp; omega) (by show ¬ w.heap.size = q; omega); have hd1 := fun o => k5.cell (b := w.heap.size + 1) o (by simp; omega) (by show ¬ w.heap.size + 1 = q; omega); obtain ⟨hd7, _, hd9, _⟩ := fix_cells m5))
 all_goals
  clear hd0 hd1 hd7 hd9
  have z5 := k5.size
  simp at z5
  go_wp2
  go_end0
  refine ⟨rfl, ⟨_, m5, _, l5.mono (fun i hi => .inr ⟨by have := hi.1; simp at this; omega, hi.2⟩), Clo.mk2 ?_ (.inr ⟨by omega, by omega⟩) ?_ (.inr ⟨by omega, by omega⟩)⟩, ((Below.keeps B2.out).drew).trans k5⟩
  ·exact (X1.out.drew).keep k5 (by show ¬ w.heap.size + 1 = q; omega)
  ·exact (X0.out.drew).keep k5 (by show ¬ w.heap.size = q; omega)
set_option maxHeartbeats 2000000 in
theorem fAhead_any (a : Int) (w : World) (h : FixW w O q m) (ha0 : 0 ≤ a) (ha1 : a ≤ 16400) :
  Calls Tryz.prog 168 #[.pointer (some ⟨q, 0, none⟩), .int .i64 a] w fun e w' => e = .returned (.tuple #[]) ∧ FixTo w O q (m.ahead a) w' := by
 have hlt := h.lt
 have H := Lib.hid h
 obtain ⟨b0, b1, b2, b3, b4, b5⟩ := h.bd
 obtain ⟨c7, c8, c9, c10, _⟩ := fix_cells h.mch
 have W1 : IntKind.i64.wrap (m.c.b + a) = m.c.b + a := IntWalk.i64_in _ ⟨by omega, by omega⟩
 clear h b0 b1
 go_enter Tryz.func168, Tryz.ntmps168
 go_upto_region 1 with fail
 obtain ⟨w2, hw2, x0, x1, hs2, bb2⟩ := pbox2 w (.pointer (some ⟨q, 0, none⟩)) (.int .i64 a) 159 3
 rw [← hw2]
 have X0 := Lib.hid x0
 have X1 := Lib.hid x1
 have B2 := Lib.hid bb2
 have p0 := x0.cell 0
 have p1 := x1.cell 0
 have d7 := (bb2.cell (p := ⟨q, 7, none⟩) hlt).trans c7
 have d10 := (bb2.cell (p := ⟨q, 10, none⟩) hlt).trans c10
 simp only [List.getElem?_cons_zero] at p0 p1
 clear hw2 x0 x1 bb2 c7 c8 c9 c10
 have H2 := Lib.hid (H.out.below B2.out)
 have l0 : w.heap.size < w2.heap.size := by omega
 have l1 : w.heap.size + 1 < w2.heap.size := by omega
 have lq : q < w2.heap.size := by omega
 by_cases hl : m.last ≤ a
 ·have HA := Lib.hid (show m.ahead a = m.stop from if_pos hl)
  go_quiet (fail)
  go_wp2_with fail
  refine (fStop_any _ (H2.out.below (bel_drewN _ (Below.refl _ _)))).mono ?_
  rintro e w5 ⟨rfl, hto⟩
  go_wp2
  refine bodyPost_ret (v := .tuple #[]) (results_none rfl _ _ _) rfl ⟨rfl, ?_⟩
  rw [HA.out]
  exact hto.after ((Below.keeps B2.out).drewN _)
 ·have HA := Lib.hid (show m.ahead a = { m with pc := .ah a } from if_neg hl)
  go_quiet (fail)
  go_wp2_with fail
  go_region_held3 (fun w' => w'.cell? ⟨w.heap.size, 0, none⟩ = some (.pointer (some ⟨q, 0, none⟩)) ∧ w'.cell? ⟨w.heap.size + 1, 0, none⟩ = some (.int .i64 a) ∧ w'.cell? ⟨q, 7, none⟩ = some (.int .i64 m.c.b)) (first | go_keep | trivial)
   (first
    | (go_at_call 36; refine (cLoad_any q _ _ _ (m.c.b + a) 4 _ _ _ (H2.out.below (bel_drewN _ (Below.refl _ _))).mch).mono ?_; rintro e w5 ⟨rfl, t5, m5, l5, k5⟩; have hd0 := fun o => k5.cell (b := w.heap.size) o (by simp; omega) (by show ¬ w.heap.size = q; omega); have hd1 := fun o => k5.cell (b := w.heap.size + 1) o (by simp; omega) (by show ¬ w.heap.size + 1 = q; omega); obtain ⟨hd7, _⟩ := fix_cells m5))
  all_goals
   clear hd0 hd1 hd7
   have z5 := k5.size
   simp at z5
   go_wp2
   go_end0
   rw [HA.out]
   refine ⟨rfl, ⟨_, m5, _, l5.mono (fun i hi => .inr ⟨by have := hi.1; simp at this; omega, hi.2⟩), Clo.mk2 ?_ (.inr ⟨by omega, by omega⟩) ?_ (.inr ⟨by omega, by omega⟩)⟩, ((Below.keeps B2.out).drewN _).trans k5⟩
   ·exact (X0.out.drewN _).keep k5 (by show ¬ w.heap.size = q; omega)
   ·exact (X1.out.drewN _).keep k5 (by show ¬ w.heap.size + 1 = q; omega)
set_option maxHeartbeats 2000000 in
theorem fBack_any (a g : Int) (w : World) (h : FixW w O q m) (ha0 : -8 ≤ a) (ha1 : a ≤ 16384) (hg0 : m.first < g) (hg1 : g ≤ m.first + 8192) (hf0 : 0 ≤ m.first) (hf1 : m.first ≤ 8192) :
  Calls Tryz.prog 172 #[.pointer (some ⟨q, 0, none⟩), .int .i64 a, .int .i64 g] w fun e w' => e = .returned (.tuple #[]) ∧ FixTo w O q (m.back a g) w' := by
 have hlt := h.lt
 have H := Lib.hid h
 obtain ⟨b0, b1, b2, b3, b4, b5⟩ := h.bd
 obtain ⟨c7, c8, c9, c10, _⟩ := fix_cells h.mch
 have W1 : IntKind.i64.wrap (m.c.b + a) = m.c.b + a := IntWalk.i64_in _ ⟨by omega, by omega⟩
 have W2 : IntKind.i64.wrap (g - m.first) = g - m.first := IntWalk.i64_in _ ⟨by omega, by omega⟩
 clear h b0 b1
 go_enter Tryz.func172, Tryz.ntmps172
 go_upto_region 1 with fail
 obtain ⟨w3, hw3, x0, x1, x2, hs3, bb3⟩ := pbox3 w (.pointer (some ⟨q, 0, none⟩)) (.int .i64 a) (.int .i64 g) 159 3 3
 rw [← hw3]
 have X0 := Lib.hid x0
 have X1 := Lib.hid x1
 have X2 := Lib.hid x2
 have B3 := Lib.hid bb3
 have p0 := x0.cell 0
 have p1 := x1.cell 0
 have p2 := x2.cell 0
 have d7 := (bb3.cell (p := ⟨q, 7, none⟩) hlt).trans c7
 have d9 := (bb3.cell (p := ⟨q, 9, none⟩) hlt).trans c9
 simp only [List.getElem?_cons_zero] at p0 p1 p2
 clear hw3 x0 x1 x2 bb3 c7 c8 c9 c10
 have H3 := Lib.hid (H.out.below B3.out)
 have l0 : w.heap.size < w3.heap.size := by omega
 have l1 : w.heap.size + 1 < w3.heap.size := by omega
 have l2 : w.heap.size + 1 + 1 < w3.heap.size := by omega
 have lq : q < w3.heap.size := by omega
 by_cases hl : a < m.first
 ·have HA := Lib.hid (show m.back a g = { m with pc := .pd (g - m.first) } from if_pos hl)
  go_quiet (fail)
  go_wp2_with fail
  go_region_held3 (fun w' => w'.cell? ⟨w.heap.size, 0, none⟩ = some (.pointer (some ⟨q, 0, none⟩)) ∧ w'.cell? ⟨w.heap.size + 1 + 1, 0, none⟩ = some (.int .i64 g) ∧ w'.cell? ⟨q, 9, none⟩ = some (.int .i64 m.first)) (first | go_keep | trivial)
   (first
    | (go_at_call 167; refine (fPad_any (g - m.first) _ (H3.out.below (bel_drewN _ (Below.refl _ _))) (by omega) (by omega) hf0 hf1).mono ?_; rintro e w5 ⟨rfl, hto⟩; have hd0 := fun o => hto.2.cell (b := w.heap.size) o (by simp; omega) (by show ¬ w.heap.size = q; omega); have hd2 := fun o => hto.2.cell (b := w.heap.size + 1 + 1) o (by simp; omega) (by show ¬ w.heap.size + 1 + 1 = q; omega); obtain ⟨_, hmm, _⟩ := hto.1; obtain ⟨_, _, hd9, _⟩ := fix_cells hmm))
  all_goals
   clear hd0 hd2 hd9 hmm
   go_wp2
   refine bodyPost_ret (v := .tuple #[]) (results_none rfl _ _ _) rfl ⟨rfl, ?_⟩
   rw [HA.out]
   exact hto.after ((Below.keeps B3.out).drewN _)
 ·have HA := Lib.hid (show m.back a g = { m with pc := .bk a g } from if_neg hl)
  go_quiet (fail)
  go_wp2_with fail
  go_region_held3 (fun w' => w'.cell? ⟨w.heap.size, 0, none⟩ = some (.pointer (some ⟨q, 0, none⟩)) ∧ w'.cell? ⟨w.heap.size + 1, 0, none⟩ = some (.int .i64 a) ∧ w'.cell? ⟨w.heap.size + 1 + 1, 0, none⟩ = some (.int .i64 g) ∧ w'.cell? ⟨q, 7, none⟩ = some (.int .i64 m.c.b)) (first | go_keep | trivial)
   (first
    | (go_at_call 36; refine (cLoad_any q _ _ _ (m.c.b + a) 4 _ _ _ (H3.out.below (bel_drewN _ (Below.refl _ _))).mch).mono ?_; rintro e w5 ⟨rfl, t5, m5, l5, k5⟩; have hd0 := fun o => k5.cell (b := w.heap.size) o (by simp; omega) (by show ¬ w.heap.size = q; omega); have hd1 := fun o => k5.cell (b := w.heap.size + 1) o (by simp; omega) (by show ¬ w.heap.size + 1 = q; omega); have hd2 := fun o => k5.cell (b := w.heap.size + 1 + 1) o (by simp; omega) (by show ¬ w.heap.size + 1 + 1 = q; omega); obtain ⟨hd7, _⟩ := fix_cells m5))
  all_goals
   clear hd0 hd1 hd2 hd7
   have z5 := k5.size
   simp at z5
   go_wp2
   go_end0
   rw [HA.out]
   refine ⟨rfl, ⟨_, m5, _, l5.mono (fun i hi => .inr ⟨by have := hi.1; simp at this; omega, hi.2⟩), Clo.mk3 ?_ (.inr ⟨by omega, by omega⟩) ?_ (.inr ⟨by omega, by omega⟩) ?_ (.inr ⟨by omega, by omega⟩)⟩, ((Below.keeps B3.out).drewN _).trans k5⟩
   ·exact (X0.out.drewN _).keep k5 (by show ¬ w.heap.size = q; omega)
   ·exact (X1.out.drewN _).keep k5 (by show ¬ w.heap.size + 1 = q; omega)
   ·exact (X2.out.drewN _).keep k5 (by show ¬ w.heap.size + 1 + 1 = q; omega)
set_option maxHeartbeats 1000000 in
theorem fPadK_any (n : Int) (nb pb : Nat) (w : World) (h : FixW w O q m) (hn : Blk w nb [.int .i64 n]) (hp : Blk w pb [ptr q]) (nn : nb ≠ q) (np : pb ≠ q) :
  Calls Tryz.prog 170 #[ptr nb, ptr pb] w fun e w' => e = .returned (.tuple #[]) ∧ FixTo w O q (({ m with n := n } : FixM).stop) w' := by
 have hlt := h.lt
 have H := Lib.hid h
 have l0 := hp.lt
 have l1 := hn.lt
 have p0 := hp.cell 0
 have p1 := hn.cell 0
 have c11 := Blk.cell h.mch 11
 have f11 := Blk.frozen h.mch 11
 simp only [List.getElem?_cons_zero, ptr] at p0 p1
 unfold ptr
 clear h hn hp
 go_enter Tryz.func170, Tryz.ntmps170
 go_wp2_with fail
 refine (fStop_any _ (H.out.put (m' := { m with n := n }) 11 (.int .i64 n) rfl rfl)).mono ?_
 rintro e w5 ⟨rfl, hto⟩
 go_wp2
 go_end0
 exact ⟨rfl, hto.after (Keep.setCell (M := (· = q)) (Keep.refl _ w) (p := ⟨q, 11, none⟩) (.inl rfl) _)⟩
set_option maxHeartbeats 1000000 in
theorem fAheadK_any (v a : Int) (pb ab : Nat) (w : World) (h : FixW w O q m) (hp : Blk w pb [ptr q]) (ha : Blk w ab [.int .i64 a]) (hf0 : 0 ≤ m.first) (hf1 : m.first ≤ 8192) (ha0 : m.first < a) (ha1 : a ≤ m.first + 8192) :
  Calls Tryz.prog 171 #[.int .u64 v, ptr pb, ptr ab] w fun e w' => e = .returned (.tuple #[]) ∧ FixTo w O q (if v = 0 then m.ahead (a + 8) else m.back (a - 8) a) w' := by
 have hlt := h.lt
 have H := Lib.hid h
 have l0 := hp.lt
 have l1 := ha.lt
 have p0 := hp.cell 0
 have p1 := ha.cell 0
 have W1 : IntKind.i64.wrap (a + 8) = a + 8 := IntWalk.i64_in _ ⟨by omega, by omega⟩
 have W2 : IntKind.i64.wrap (a - 8) = a - 8 := IntWalk.i64_in _ ⟨by omega, by omega⟩
 simp only [List.getElem?_cons_zero, ptr] at p0 p1
 unfold ptr
 clear h hp ha
 by_cases hv : v = 0
 ·subst hv
  rw [if_pos rfl]
  go_enter Tryz.func171, Tryz.ntmps171
  go_wp2_with fail
  refine (fAhead_any (a + 8) _ H.out (by omega) (by omega)).mono ?_
  rintro e w5 ⟨rfl, hto⟩
  go_wp2
  exact bodyPost_ret (v := .tuple #[]) (results_none rfl _ _ _) rfl ⟨rfl, hto⟩
 rw [if_neg hv]
 go_enter Tryz.func171, Tryz.ntmps171
 go_wp2_with fail
 refine (fBack_any (a - 8) a _ H.out (by omega) (by omega) ha0 ha1 hf0 hf1).mono ?_
 rintro e w5 ⟨rfl, hto⟩
 go_wp2
 go_end0
 exact ⟨rfl, hto⟩
set_option maxHeartbeats 1000000 in
theorem fBackK_any (v a g : Int) (pb ab gb : Nat) (w : World) (h : FixW w O q m) (hp : Blk w pb [ptr q]) (ha : Blk w ab [.int .i64 a]) (hg : Blk w gb [.int .i64 g]) (hf0 : 0 ≤ m.first) (hf1 : m.first ≤ 8192) (ha0 : m.first ≤ a) (ha1 : a ≤ 16384) (hg0 : m.first < g) (hg1 : g ≤ m.first + 8192) :
  Calls Tryz.prog 174 #[.int .u64 v, ptr pb, ptr ab, ptr gb] w fun e w' => e = .returned (.tuple #[]) ∧ FixTo w O q (if v ≠ 0 then m.stop else m.back (a - 8) g) w' := by
 have hlt := h.lt
 have H := Lib.hid h
 have l0 := hp.lt
 have l1 := ha.lt
 have l2 := hg.lt
 have p0 := hp.cell 0
 have p1 := ha.cell 0
 have p2 := hg.cell 0
 have W2 : IntKind.i64.wrap (a - 8) = a - 8 := IntWalk.i64_in _ ⟨by omega, by omega⟩
 simp only [List.getElem?_cons_zero, ptr] at p0 p1 p2
 unfold ptr
 clear h hp ha hg
 by_cases hv : v ≠ 0
 ·rw [if_pos hv]
  have hv' : (v != 0) = true := by simpa using hv
  go_enter Tryz.func174, Tryz.ntmps174
  go_wp2_with fail
  refine (fStop_any _ H.out).mono ?_
  rintro e w5 ⟨rfl, hto⟩
  go_wp2
  exact bodyPost_ret (v := .tuple #[]) (results_none rfl _ _ _) rfl ⟨rfl, hto⟩
 rw [if_neg hv]
 have hv0 : v = 0 := by omega
 subst hv0
 go_enter Tryz.func174, Tryz.ntmps174
 go_wp2_with fail
 refine (fBack_any (a - 8) g _ H.out (by omega) (by omega) hg0 hg1 hf0 hf1).mono ?_
 rintro e w5 ⟨rfl, hto⟩
 go_wp2
 go_end0
 exact ⟨rfl, hto⟩
theorem loS_bd (v : Int) : -2147483648 ≤ loS v ∧ loS v ≤ 2147483647 := by unfold loS wrap32; omega
def FixM.looked (m : FixM) (v : Int) : FixM := if 0 < loS v ∨ loS v < -(m.c.s - m.first) then m.stop else if loS v < 0 then { m with pc := .pd (-loS v) } else m.ahead (m.first + 8)
set_option maxHeartbeats 2000000 in
theorem fLook_any (v : Int) (w : World) (h : FixW w O q m) (hv : inU v) (hf0 : 0 ≤ m.first) (hf1 : m.first ≤ m.c.s) :
  Calls Tryz.prog 155 #[.pointer (some ⟨q, 0, none⟩), .int .u64 v] w fun e w' => e = .returned (.tuple #[]) ∧ FixTo w O q (m.looked v) w' := by
 have hlt := h.lt
 have H := Lib.hid h
 obtain ⟨b0, b1, b2, b3, b4, b5⟩ := h.bd
 obtain ⟨c7, c8, c9, c10, _⟩ := fix_cells h.mch
 have lb := loS_bd v
 have W1 : IntKind.i64.wrap (m.c.s - m.first) = m.c.s - m.first := IntWalk.i64_in _ ⟨by omega, by omega⟩
 have W2 : IntKind.i64.wrap (-(m.c.s - m.first)) = -(m.c.s - m.first) := IntWalk.i64_in _ ⟨by omega, by omega⟩
 have W3 : IntKind.i64.wrap (m.first + 8) = m.first + 8 := IntWalk.i64_in _ ⟨by omega, by omega⟩
 have W4 : IntKind.i64.wrap (loS v) = loS v := IntWalk.i64_in _ ⟨by omega, by omega⟩
 obtain ⟨L, hL⟩ : ∃ L, L = loS v := ⟨_, rfl⟩
 have HL := Lib.hid hL
 rw [← hL] at lb W4
 clear h b0 b1 hL
 go_enter Tryz.func155, Tryz.ntmps155
 go_wp2_with fail
 refine (split_any v _ hv.1 hv.2).mono ?_
 rintro e w1 ⟨rfl, rfl⟩
 rw [← HL.out]
 by_cases h1 : 0 < L
 ·have HA := Lib.hid (show m.looked v = m.stop by unfold FixM.looked; rw [← HL.out, if_pos (.inl h1)])
  go_wp2_with fail
  go_quiet (fail)
  go_wp2_with fail
  refine (fStop_any _ (H.out.below (by first | exact Below.refl _ _ | exact bel_drewN _ (Below.refl _ _)))).mono ?_
  rintro e w5 ⟨rfl, hto⟩
  go_wp2
  first
   | (refine bodyPost_ret (v := .tuple #[]) (results_none rfl _ _ _) rfl ⟨rfl, ?_⟩; rw [HA.out]; first | exact hto.after ((Keep.refl _ w).drewN _) | exact hto)
   | (go_end0; refine ⟨rfl, ?_⟩; rw [HA.out]; first | exact hto.after ((Keep.refl _ w).drewN _) | exact hto)
 by_cases h2 : L < -(m.c.s - m.first)
 ·have HA := Lib.hid (show m.looked v = m.stop by unfold FixM.looked; rw [← HL.out, if_pos (.inr h2)])
  go_wp2_with fail
  go_quiet (fail)
  go_wp2_with fail
  refine (fStop_any _ (H.out.below (by first | exact Below.refl _ _ | exact bel_drewN _ (Below.refl _ _)))).mono ?_
  rintro e w5 ⟨rfl, hto⟩
  go_wp2
  first
   | (refine bodyPost_ret (v := .tuple #[]) (results_none rfl _ _ _) rfl ⟨rfl, ?_⟩; rw [HA.out]; first | exact hto.after ((Keep.refl _ w).drewN _) | exact hto)
   | (go_end0; refine ⟨rfl, ?_⟩; rw [HA.out]; first | exact hto.after ((Keep.refl _ w).drewN _) | exact hto)
 have hn : ¬ (0 < L ∨ L < -(m.c.s - m.first)) := by omega
 by_cases h3 : L < 0
 ·have HA := Lib.hid (show m.looked v = { m with pc := .pd (-L) } by unfold FixM.looked; rw [← HL.out, if_neg hn, if_pos h3])
  have W5 : IntKind.i32.wrap (-L) = -L := IntWalk.i32_in _ ⟨by omega, by omega⟩
  have W6 : IntKind.i64.wrap (-L) = -L := IntWalk.i64_in _ ⟨by omega, by omega⟩
  go_wp2_with fail
  go_quiet (fail)
  go_wp2_with fail
  refine (fPad_any (-L) _ (H.out.below (by first | exact Below.refl _ _ | exact bel_drewN _ (Below.refl _ _))) (by omega) (by omega) hf0 (by omega)).mono ?_
  rintro e w5 ⟨rfl, hto⟩
  go_wp2
  first
   | (refine bodyPost_ret (v := .tuple #[]) (results_none rfl _ _ _) rfl ⟨rfl, ?_⟩; rw [HA.out]; first | exact hto.after ((Keep.refl _ w).drewN _) | exact hto)
   | (go_end0; refine ⟨rfl, ?_⟩; rw [HA.out]; first | exact hto.after ((Keep.refl _ w).drewN _) | exact hto)
 ·have HA := Lib.hid (show m.looked v = m.ahead (m.first + 8) by unfold FixM.looked; rw [← HL.out, if_neg hn, if_neg h3])
  go_wp2_with fail
  go_quiet (fail)
  go_wp2_with fail
  refine (fAhead_any (m.first + 8) _ (H.out.below (by first | exact Below.refl _ _ | exact bel_drewN _ (Below.refl _ _))) (by omega) (by omega)).mono ?_
  rintro e w5 ⟨rfl, hto⟩
  go_wp2
  first
   | (refine bodyPost_ret (v := .tuple #[]) (results_none rfl _ _ _) rfl ⟨rfl, ?_⟩; rw [HA.out]; first | exact hto.after ((Keep.refl _ w).drewN _) | exact hto)
   | (go_end0; refine ⟨rfl, ?_⟩; rw [HA.out]; first | exact hto.after ((Keep.refl _ w).drewN _) | exact hto)
set_option maxHeartbeats 2000000 in
theorem fBegin_any (x y : Int) (w : World) (h : FixW w O q m) (hx : inU x) (hy : inU y) :
  Calls Tryz.prog 125 #[.pointer (some ⟨q, 0, none⟩), .int .u64 x, .int .u64 y] w fun e w' => e = .returned (.tuple #[]) ∧ FixTo w O q (m.begin x y) w' := by
 have hlt := h.lt
 have H := Lib.hid h
 obtain ⟨b0, b1, b2, b3, b4, b5⟩ := h.bd
 obtain ⟨c7, c8, c9, c10, _⟩ := fix_cells h.mch
 have f9 := Blk.frozen h.mch 9
 have f10 := Blk.frozen h.mch 10
 have m1 := Int.emod_nonneg x (show m.c.s ≠ 0 by omega)
 have m2 := Int.emod_lt_of_pos x (show 0 < m.c.s by omega)
 have m3 := Int.emod_nonneg y (show m.c.s ≠ 0 by omega)
 have m4 := Int.emod_lt_of_pos y (show 0 < m.c.s by omega)
 have HM := fun v : Int => Lib.hid (show mkS (wrap64 v) m.c.s = v % m.c.s by unfold mkS; rw [if_pos b1, show wrap64 v = s64 v by unfold wrap64 s64; rfl]; exact s64_mod b0 v)
 clear h b0 b1
 by_cases hxy : x = y
 ·subst hxy
  have HB := Lib.hid (show m.begin x x = m.stop from if_pos rfl)
  rw [HB.out]
  go_enter Tryz.func125, Tryz.ntmps125
  go_wp2_with fail
  refine (fStop_any _ H.out).mono ?_
  rintro e w5 ⟨rfl, hto⟩
  go_wp2
  exact bodyPost_ret (v := .tuple #[]) (results_none rfl _ _ _) rfl ⟨rfl, hto⟩
 have HB := Lib.hid (show m.begin x y = { m with first := x % m.c.s, last := if y % m.c.s ≤ x % m.c.s then m.c.s else y % m.c.s, pc := .lk } from if_neg hxy)
 go_enter Tryz.func125, Tryz.ntmps125
 go_wp2_with fail
 refine (mask_any _ _ _ (by omega)).mono ?_
 rintro e w1 ⟨rfl, rfl⟩
 go_wp2_with fail
 refine (mask_any _ _ _ (by omega)).mono ?_
 rintro e w1 ⟨rfl, rfl⟩
 go_upto_region 4 with fail
 obtain ⟨w2, hw2⟩ : ∃ w2, w2 = (w.setCell ⟨q, 9, none⟩ (.int .i64 (mkS (wrap64 x) m.c.s))).setCell ⟨q, 10, none⟩ (.int .i64 (mkS (wrap64 y) m.c.s)) := ⟨_, rfl⟩
 rw [← hw2]
 have k2 : Keep (· = q) w w2 := by
  rw [hw2]
  exact Keep.setCell (M := (· = q)) (Keep.setCell (M := (· = q)) (Keep.refl _ w) (p := ⟨q, 9, none⟩) (.inl rfl) _) (p := ⟨q, 10, none⟩) (.inl rfl) _
 have h2 : FixW w2 O q { m with first := x % m.c.s, last := y % m.c.s } := by
  rw [hw2, (HM x).out, (HM y).out]
  exact (H.out.put (m' := { m with first := x % m.c.s }) 9 _ rfl rfl).put (m' := { m with first := x % m.c.s, last := y % m.c.s }) 10 _ rfl rfl
 have K2 := Lib.hid k2
 have H2 := Lib.hid h2
 have lq2 := h2.lt
 obtain ⟨e7, e8, e9, e10, _⟩ := fix_cells h2.mch
 have g10 := Blk.frozen h2.mch 10
 dsimp only at e7 e8 e9 e10
 clear hw2 k2 h2 c7 c8 c9 c10 f9 f10
 have W1 : IntKind.i64.wrap (m.c.b + x % m.c.s) = m.c.b + x % m.c.s := IntWalk.i64_in _ ⟨by omega, by omega⟩
 by_cases hyx : y % m.c.s ≤ x % m.c.s
 ·rw [if_pos hyx] at HB
  go_quiet (fail)
  go_wp2_with fail
  obtain ⟨w3, hw3⟩ : ∃ w3, w3 = ((w2.drewN nq).setCell ⟨q, 10, none⟩ (.int .i64 m.c.s)) := ⟨_, rfl⟩
  have h3 : FixW w3 O q { m with first := x % m.c.s, last := m.c.s } := by
   rw [hw3]
   exact (H2.out.below (bel_drewN _ (Below.refl _ _))).put (m' := { m with first := x % m.c.s, last := m.c.s }) 10 _ rfl rfl
  have k3 : Keep (· = q) w w3 := by
   rw [hw3]
   exact (K2.out.drewN _).setCell (p := ⟨q, 10, none⟩) (.inl rfl) _
  rw [← hw3]
  clear hw3
  have K3 := Lib.hid k3
  have z3 := k3.size
  have lq3 := h3.lt
  obtain ⟨d7, d8, d9, _⟩ := fix_cells h3.mch
  dsimp only at d7 d8 d9
  have H3 := Lib.hid h3
  clear h3 k3 e7 e8 e9 e10 g10
  go_region_held3 (fun w' => w'.cell? ⟨q, 7, none⟩ = some (.int .i64 m.c.b) ∧ w'.cell? ⟨q, 9, none⟩ = some (.int .i64 (x % m.c.s))) (first | go_keep | trivial)
   (first
    | (go_at_call 36; refine (cLoad_bd q _ _ _ (m.c.b + x % m.c.s) 8 _ _ _ _ (H3.out.drew).mch).mono ?_; rintro e w5 ⟨rfl, t5, m5, l5, k5⟩; obtain ⟨hd7, _, hd9, _⟩ := fix_cells m5))
  all_goals
   clear hd7 hd9
   have z5 := k5.size
   simp at z5
   go_wp2
   go_end0
   rw [HB.out]
   exact ⟨rfl, ⟨_, m5, l5.mono (fun i hi => .inr ⟨by have := hi.1; simp at this; omega, hi.2⟩)⟩, (K3.out.drew).trans k5⟩
 ·rw [if_neg hyx] at HB
  go_quiet (fail)
  go_wp2_with fail
  obtain ⟨w3, hw3⟩ : ∃ w3, w3 = w2.drewN nq := ⟨_, rfl⟩
  have h3 : FixW w3 O q { m with first := x % m.c.s, last := y % m.c.s } := by
   rw [hw3]
   exact H2.out.below (bel_drewN _ (Below.refl _ _))
  have k3 : Keep (· = q) w w3 := by
   rw [hw3]
   exact K2.out.drewN _
  rw [← hw3]
  clear hw3
  have K3 := Lib.hid k3
  have z3 := k3.size
  have lq3 := h3.lt
  obtain ⟨d7, d8, d9, _⟩ := fix_cells h3.mch
  dsimp only at d7 d8 d9
  have H3 := Lib.hid h3
  clear h3 k3 e7 e8 e9 e10 g10
  go_region_held3 (fun w' => w'.cell? ⟨q, 7, none⟩ = some (.int .i64 m.c.b) ∧ w'.cell? ⟨q, 9, none⟩ = some (.int .i64 (x % m.c.s))) (first | go_keep | trivial)
   (first
    | (go_at_call 36; refine (cLoad_bd q _ _ _ (m.c.b + x % m.c.s) 8 _ _ _ _ (H3.out.drew).mch).mono ?_; rintro e w5 ⟨rfl, t5, m5, l5, k5⟩; obtain ⟨hd7, _, hd9, _⟩ := fix_cells m5))
  all_goals
   clear hd7 hd9
   have z5 := k5.size
   simp at z5
   go_wp2
   go_end0
   rw [HB.out]
   exact ⟨rfl, ⟨_, m5, l5.mono (fun i hi => .inr ⟨by have := hi.1; simp at this; omega, hi.2⟩)⟩, (K3.out.drew).trans k5⟩
set_option maxHeartbeats 2000000 in
theorem fNewKK_any (v h0 : Int) (pb hb : Nat) (w : World) (h : FixW w O q m) (hp : Blk w pb [ptr q]) (hh : Blk w hb [.int .u64 h0]) (hv : inU v) (hh0 : inU h0) :
  Calls Tryz.prog 124 #[.int .u64 v, ptr pb, ptr hb] w fun e w' => e = .returned (.tuple #[]) ∧ FixTo w O q (m.begin h0 v) w' := by
 have hlt := h.lt
 have H := Lib.hid h
 have l0 := hp.lt
 have l1 := hh.lt
 have p0 := hp.cell 0
 have p1 := hh.cell 0
 simp only [List.getElem?_cons_zero, ptr] at p0 p1
 unfold ptr
 clear h hh hp
 go_enter Tryz.func124, Tryz.ntmps124
 go_wp2_with fail
 refine (fBegin_any h0 v _ H.out hh0 hv).mono ?_
 rintro e w5 ⟨rfl, hto⟩
 go_wp2
 go_end0
 exact ⟨rfl, hto⟩
set_option maxHeartbeats 2000000 in
theorem fNewK_any (v : Int) (pb eb : Nat) (w : World) (h : FixW w O q m) (hp : Blk w pb [ptr q]) (he : Blk w eb [.int .i64 (m.c.b + m.c.s)]) (op : O pb) (neq : eb ≠ q) :
  Calls Tryz.prog 123 #[.int .u64 v, ptr pb, ptr eb] w fun e w' => e = .returned (.tuple #[]) ∧ FixTo w O q { m with pc := .t0 v } w' := by
 have hlt := h.lt
 have H := Lib.hid h
 have nq := h.nq
 have l0 := hp.lt
 have l1 := he.lt
 have np : pb ≠ q := fun e => nq (e ▸ op)
 have HP := Lib.hid hp
 have HE := Lib.hid he
 obtain ⟨w1, hw1⟩ : ∃ w1, w1 = w.alloc (.cells #[.int .u64 v] 54) := ⟨_, rfl⟩
 have X1 := Lib.hid (show Blk w1 w.heap.size [.int .u64 v] by rw [hw1]; exact Blk.made w _ _)
 have B1 := Lib.hid (show Below w.heap.size w w1 by rw [hw1]; go_grown)
 have z1 : w1.heap.size = w.heap.size + 1 := by rw [hw1]; simp
 have p0 := (HP.out.below B1.out l0).cell 0
 have p1 := (HE.out.below B1.out l1).cell 0
 simp only [List.getElem?_cons_zero, ptr] at p0 p1
 unfold ptr
 clear h he hp
 go_enter Tryz.func123, Tryz.ntmps123
 go_upto_region 1 with fail
 rw [← hw1]
 clear hw1
 go_region_held3 (fun w' => w'.cell? ⟨pb, 0, none⟩ = some (.pointer (some ⟨q, 0, none⟩)) ∧ w'.cell? ⟨eb, 0, none⟩ = some (.int .i64 (m.c.b + m.c.s))) (first | go_keep | trivial)
  (first
   | (go_at_call 36; refine (cLoad_any q _ _ _ (m.c.b + m.c.s) 8 _ _ _ ((H.out.below B1.out).drew).mch).mono ?_; rintro e w5 ⟨rfl, t5, m5, l5, k5⟩; have hd0 := fun o => k5.cell (b := pb) o (by simp; omega) np; have hd1 := fun o => k5.cell (b := eb) o (by simp; omega) neq))
 all_goals
  clear hd0 hd1
  have z5 := k5.size
  simp at z5
  go_wp2
  go_end0
  refine ⟨rfl, ⟨_, m5, _, l5.mono (fun i hi => .inr ⟨by have := hi.1; simp at this; omega, hi.2⟩), Clo.mk2 ?_ (.inl op) ?_ (.inr ⟨Nat.le_refl _, by omega⟩)⟩, ((Below.keeps B1.out).drew).trans k5⟩
  ·exact ((HP.out.below B1.out l0).drew).keep k5 np
  ·exact ((X1.out).drew).keep k5 (by show ¬ w.heap.size = q; omega)
def FixM.pcOk (m : FixM) : Prop := match m.pc with
 | .done => True
 | .h0 => True
 | .t0 h => inU h
 | .lk => 0 ≤ m.first ∧ m.first < m.last ∧ m.last ≤ m.c.s
 | .ah a => (0 ≤ m.first ∧ m.first < m.last ∧ m.last ≤ m.c.s) ∧ m.first < a ∧ a < m.last
 | .bk a g => (0 ≤ m.first ∧ m.first < m.last ∧ m.last ≤ m.c.s) ∧ m.first ≤ a ∧ a < g ∧ g < m.last
 | .pd n => (0 ≤ m.first ∧ m.first < m.last ∧ m.last ≤ m.c.s) ∧ 0 < n ∧ n ≤ m.c.s - m.first
structure FixM.fine (m : FixM) : Prop where
 ok : m.live = true → rgOk m.c.b m.c.s = true
 pc : m.pcOk
theorem FixM.fine.stop : m.stop.fine := ⟨nofun, trivial⟩
theorem FixM.fine.ahead (hok : rgOk m.c.b m.c.s = true) (h : 0 ≤ m.first ∧ m.first < m.last ∧ m.last ≤ m.c.s) {a : Int} (ha : m.first < a) : (m.ahead a).fine := by
 unfold FixM.ahead
 split
 ·exact FixM.fine.stop
 ·rename_i hc
  exact ⟨fun _ => hok, h, ha, by show a < m.last; omega⟩
theorem FixM.fine.back (hok : rgOk m.c.b m.c.s = true) (h : 0 ≤ m.first ∧ m.first < m.last ∧ m.last ≤ m.c.s) {a g : Int} (ha : a < g) (hg : m.first < g) (hl : g < m.last) : (m.back a g).fine := by
 unfold FixM.back
 split
 ·exact ⟨fun _ => hok, h, by omega, by show g - m.first ≤ m.c.s - m.first; omega⟩
 ·rename_i hc
  exact ⟨fun _ => hok, h, by show m.first ≤ a; omega, ha, hl⟩
theorem FixM.fine.step (h : m.fine) (hl : m.live = true) {x : AN} (hx : inU x.v) : (m.step x).fine := by
 have hok := h.ok hl
 have hp := h.pc
 obtain ⟨g1, g2, g3, g4, g5, g6⟩ := rgOk_bd hok
 obtain ⟨c, pc, first, last, n, e⟩ := m
 dsimp only at hok g1 g2 g3 g4 g5 g6
 cases pc with
 | done => cases hl
 | h0 => exact ⟨fun _ => hok, hx⟩
 | t0 h0 =>
  show (FixM.begin _ h0 x.v).fine
  unfold FixM.begin
  have m1 := Int.emod_nonneg h0 (show c.s ≠ 0 by omega)
  have m2 := Int.emod_lt_of_pos h0 (show 0 < c.s by omega)
  have m4 := Int.emod_lt_of_pos x.v (show 0 < c.s by omega)
  split
  ·exact FixM.fine.stop
  ·refine ⟨fun _ => hok, m1, ?_, ?_⟩
   ·dsimp only
    split <;> omega
   ·dsimp only
    split <;> omega
 | lk =>
  have hp' : 0 ≤ first ∧ first < last ∧ last ≤ c.s := hp
  simp only [FixM.step]
  split
  ·exact FixM.fine.stop
  split
  ·rename_i h1 h2
   exact ⟨fun _ => hok, hp', by show 0 < -loS x.v; omega, by show -loS x.v ≤ c.s - first; omega⟩
  ·exact FixM.fine.ahead hok hp' (by dsimp only; omega)
 | ah a =>
  obtain ⟨hp', h1, h2⟩ := hp
  simp only [FixM.step]
  split
  ·exact FixM.fine.ahead hok hp' (by dsimp only at h1 ⊢; omega)
  ·exact FixM.fine.back hok hp' (by omega) h1 h2
 | bk a g =>
  obtain ⟨hp', h1, h2, h3⟩ := hp
  simp only [FixM.step]
  split
  ·exact FixM.fine.stop
  ·exact FixM.fine.back hok hp' (by omega) (by dsimp only at h1 ⊢; omega) h3
 | pd n => exact FixM.fine.stop
theorem FixM.fine.wf (h : m.fine) : m.want.wf := by
 have u0 : inU 0 := ⟨by omega, by omega⟩
 obtain ⟨c, pc, first, last, n, e⟩ := m
 cases pc with
 | pd n => exact ⟨IsB.nil, by simp [FixM.want], (recS_bdP _ _).1, (recS_bdP _ _).2, u0.1, u0.2⟩
 | _ => exact ⟨IsB.nil, by simp [FixM.want, aaZ], u0.1, u0.2, u0.1, u0.2⟩
structure FixI (w : World) (O : Nat → Prop) (q : Nat) (m : FixM) : Prop where
 at_ : FixAt w O q m
 nq : ¬ O q
 fine : m.fine
theorem FixI.lt {w : World} (h : FixI w O q m) : q < w.heap.size := by
 obtain ⟨t, hm, _⟩ := h.at_
 exact Blk.lt hm
theorem FixI.keep {O M : Nat → Prop} (h : FixI w O q m) (k : Keep M w w') (hd : ∀ i, O i → ¬ M i) (hq : ¬ M q) : FixI w' O q m := ⟨h.at_.keep k hd hq, h.nq, h.fine⟩
theorem FixI.below (h : FixI w O q m) (b : Below w.heap.size w w') : FixI w' O q m := h.keep (M := fun _ => False) (Below.keeps b) (fun _ _ => id) id
theorem enFNew : En 123 := enters_of Tryz.func123 (by kernel_rfl) rfl
theorem enFNew1 : En 124 := enters_of Tryz.func124 (by kernel_rfl) rfl
theorem enFLook : En 155 := enters_of Tryz.func155 (by kernel_rfl) rfl
theorem enFAhead : En 171 := enters_of Tryz.func171 (by kernel_rfl) rfl
theorem enFBack : En 174 := enters_of Tryz.func174 (by kernel_rfl) rfl
theorem enFPad : En 170 := enters_of Tryz.func170 (by kernel_rfl) rfl
set_option maxHeartbeats 2000000 in
theorem fcTake_any (v : Int) (d : Bool) (bs : List Int) (s0 : Option Addr) (sl sc : Nat) (w : World) (h : FixI w O q m) (hl : m.live = true) (hv : inU v) :
  Calls Tryz.prog 192 #[.pointer (some ⟨q, 0, none⟩), .agg #[.int .u64 v, .bool d, .slice s0 sl sc]] w fun e w' => e = .returned (.tuple #[]) ∧ FixTo w O q (m.step ⟨v, d, bs⟩) w' := by
 have nq := h.nq
 have hA := h.at_
 have hF := h.fine.pc
 have hok := h.fine.ok hl
 obtain ⟨g1, g2, g3, g4, g5, g6⟩ := rgOk_bd hok
 clear h
 have nqb : ∀ b, O b → b ≠ q := fun b hb e => nq (e ▸ hb)
 obtain ⟨c, pc, first, last, n, e⟩ := m
 dsimp only at hok g1 g2 g3 g4 g5 g6
 have hW : ∀ {w1 : World} {pc1 : FPc}, Mch w1 q accZ .nilFunc (FixM.rest ⟨c, pc1, first, last, n, e⟩) → FixW w1 O q ⟨c, pc1, first, last, n, e⟩ := fun m1 => ⟨m1, nq, hok⟩
 cases pc with
 | done => cases hl
 | h0 =>
  obtain ⟨t, hm, v1, c1, c2⟩ := hA
  obtain ⟨pb, eb, rfl, ⟨hp, op⟩, he, oe⟩ := c2.c2
  refine takeLoad O q _ t _ _ _ v d s0 sl sc w hm c1 nq enFNew _ (fun w1 m1 k1 => ?_)
  refine (fNewK_any v pb eb w1 (hW m1) (hp.keep k1 (nqb pb op)) (he.keep k1 (nqb eb oe)) op (nqb eb oe)).mono ?_
  rintro e w' ⟨rfl, hto⟩
  exact ⟨rfl, hto.after k1⟩
 | t0 h0 =>
  obtain ⟨t, hm, v1, c1, c2⟩ := hA
  obtain ⟨pb, eb, rfl, ⟨hp, op⟩, he, oe⟩ := c2.c2
  refine takeLoad O q _ t _ _ _ v d s0 sl sc w hm c1 nq enFNew1 _ (fun w1 m1 k1 => ?_)
  refine (fNewKK_any v h0 pb eb w1 (hW m1) (hp.keep k1 (nqb pb op)) (he.keep k1 (nqb eb oe)) hv hF).mono ?_
  rintro e w' ⟨rfl, hto⟩
  exact ⟨rfl, hto.after k1⟩
 | lk =>
  obtain ⟨t, hm, c1⟩ := hA
  have hF' : 0 ≤ first ∧ first < last ∧ last ≤ c.s := hF
  refine takeLoadB O q _ t _ _ _ v d s0 sl sc w hm c1 nq enFLook _ (fun w1 m1 k1 => ?_)
  refine (fLook_any v w1 (hW m1) hv (by dsimp only; omega) (by dsimp only; omega)).mono ?_
  rintro e w' ⟨rfl, hto⟩
  exact ⟨rfl, hto.after k1⟩
 | ah a =>
  obtain ⟨t, hm, v1, c1, c2⟩ := hA
  obtain ⟨pb, eb, rfl, ⟨hp, op⟩, he, oe⟩ := c2.c2
  obtain ⟨⟨f1, f2, f3⟩, f4, f5⟩ := hF
  dsimp only at f1 f2 f3 f4 f5
  refine takeLoad O q _ t _ _ _ v d s0 sl sc w hm c1 nq enFAhead _ (fun w1 m1 k1 => ?_)
  refine (fAheadK_any v a pb eb w1 (hW m1) (hp.keep k1 (nqb pb op)) (he.keep k1 (nqb eb oe)) f1 (by dsimp only; omega) f4 (by dsimp only; omega)).mono ?_
  rintro e w' ⟨rfl, hto⟩
  exact ⟨rfl, hto.after k1⟩
 | bk a g =>
  obtain ⟨t, hm, v1, c1, c2⟩ := hA
  obtain ⟨pb, ab, gb, rfl, ⟨hp, op⟩, ⟨ha, oa⟩, hg, og⟩ := c2.c3
  obtain ⟨⟨f1, f2, f3⟩, f4, f5, f6⟩ := hF
  dsimp only at f1 f2 f3 f4 f5 f6
  refine takeLoad O q _ t _ _ _ v d s0 sl sc w hm c1 nq enFBack _ (fun w1 m1 k1 => ?_)
  refine (fBackK_any v a g pb ab gb w1 (hW m1) (hp.keep k1 (nqb pb op)) (ha.keep k1 (nqb ab oa)) (hg.keep k1 (nqb gb og)) f1 (by dsimp only; omega) f4 (by omega) (by dsimp only; omega) (by dsimp only; omega)).mono ?_
  rintro e w' ⟨rfl, hto⟩
  exact ⟨rfl, hto.after k1⟩
 | pd n1 =>
  obtain ⟨t, hm, v1, c1, c2⟩ := hA
  obtain ⟨nb, pb, rfl, ⟨hn, on⟩, hp, op⟩ := c2.c2
  refine takeStore O q _ t _ _ _ v d s0 sl sc w hm c1 nq enFPad _ (fun w1 m1 k1 => ?_)
  refine (fPadK_any n1 nb pb w1 (hW m1) (hn.keep k1 (nqb nb on)) (hp.keep k1 (nqb pb op)) (nqb nb on) (nqb pb op)).mono ?_
  rintro e w' ⟨rfl, hto⟩
  exact ⟨rfl, hto.after k1⟩
theorem fcNext_any (w : World) (h : FixAt w O q m) :
  Calls Tryz.prog 113 #[.pointer (some ⟨q, 0, none⟩)] w fun e w' => ∃ s0 sl sc, e = .returned (.tuple #[m.want.V (.slice s0 sl sc), .bool m.live]) ∧ RdB w' (.slice s0 sl sc) m.want.b ∧ Below w.heap.size w w' := by
 obtain ⟨c, pc, first, last, n, e⟩ := m
 have more : ∀ (a : AA) (f : Nat) (xs : List Value) (t : Value) (r : List Value), a.b = [] → Mch w q a.acc t r → Clo w O t f xs → Calls Tryz.prog 113 #[.pointer (some ⟨q, 0, none⟩)] w fun e w' => ∃ s0 sl sc, e = .returned (.tuple #[a.V (.slice s0 sl sc), .bool true]) ∧ RdB w' (.slice s0 sl sc) a.b ∧ Below w.heap.size w w' := by
  intro a f xs t r hb hm hc
  obtain ⟨bs, rfl, _⟩ := hc
  refine (cNext_more q a.k a.a a.n a.v a.x none 0 0 f _ r w hm).mono ?_
  rintro e w' ⟨rfl, b⟩
  exact ⟨none, 0, 0, rfl, by rw [hb]; exact .inl ⟨rfl, rfl⟩, b⟩
 cases pc with
 | done =>
  obtain ⟨t, hm, rfl⟩ := h
  refine (cNext_end q _ _ w hm).mono ?_
  rintro e w' ⟨rfl, b⟩
  exact ⟨none, 0, 0, rfl, .inl ⟨rfl, rfl⟩, b⟩
 | h0 => obtain ⟨t, hm, v1, c1, _⟩ := h; exact more _ _ _ _ _ rfl hm c1
 | t0 x => obtain ⟨t, hm, v1, c1, _⟩ := h; exact more _ _ _ _ _ rfl hm c1
 | lk => obtain ⟨t, hm, c1⟩ := h; exact more _ _ _ _ _ rfl hm c1
 | ah x => obtain ⟨t, hm, v1, c1, _⟩ := h; exact more _ _ _ _ _ rfl hm c1
 | bk x y => obtain ⟨t, hm, v1, c1, _⟩ := h; exact more _ _ _ _ _ rfl hm c1
 | pd x => obtain ⟨t, hm, v1, c1, _⟩ := h; exact more _ _ _ _ _ rfl hm c1
set_option maxHeartbeats 1000000 in
theorem fNext_of {W : AA} {L : Bool} (w : World) (hlt : q < w.heap.size)
  (hc : ∀ w1, Below w.heap.size w w1 → Calls Tryz.prog 113 #[.pointer (some ⟨q, 0, none⟩)] w1 fun e w' => ∃ s0 sl sc, e = .returned (.tuple #[W.V (.slice s0 sl sc), .bool L]) ∧ RdB w' (.slice s0 sl sc) W.b ∧ Below w1.heap.size w1 w') :
  Calls Tryz.prog 216 #[.pointer (some ⟨q, 0, none⟩)] w fun e w' => ∃ s0 sl sc, e = .returned (.tuple #[W.V (.slice s0 sl sc), .bool L]) ∧ RdB w' (.slice s0 sl sc) W.b ∧ Below w.heap.size w w' := by
 have HC := Lib.hid hc
 clear hc
 go_enter Tryz.func216, Tryz.ntmps216
 go_wp2_with fail
 refine (HC.out (w.alloc (.cells #[.int .i64 0, .int .i64 0, .int .i64 0, .int .u64 0, .int .u64 0, .slice none 0 0] 72)) ((Below.refl w.heap.size w).alloc (Nat.le_refl _) _)).mono ?_
 rintro e w1 ⟨s0, sl, sc, rfl, hr, b1⟩
 unfold AA.V
 dsimp only
 have z1 := b1.size
 simp at z1
 have A1 := Lib.hid (Blk.below (Blk.made w #[.int .i64 0, .int .i64 0, .int .i64 0, .int .u64 0, .int .u64 0, .slice none 0 0] 72) b1 (by simp))
 have B1 : Below w.heap.size w w1 := ((Below.refl w.heap.size w).alloc (Nat.le_refl _) _).trans (b1.mono (by simp))
 have y1 : w.heap.size < w1.heap.size := by omega
 have HR := Lib.hid hr
 clear b1 hr
 have a0 := A1.out.cell 0
 have a1 := A1.out.cell 1
 have a2 := A1.out.cell 2
 have a3 := A1.out.cell 3
 have a4 := A1.out.cell 4
 have a5 := A1.out.cell 5
 have e0 := A1.out.frozen 0
 have e1 := A1.out.frozen 1
 have e2 := A1.out.frozen 2
 have e3 := A1.out.frozen 3
 have e4 := A1.out.frozen 4
 have e5 := A1.out.frozen 5
 simp only [List.getElem?_toArray, List.getElem?_cons_zero, List.getElem?_cons_succ] at a0 a1 a2 a3 a4 a5
 go_wp2
 refine bodyPost_ret (v := .tuple #[W.V (.slice s0 sl sc), .bool L]) (res_aa (c := W) rfl rfl rfl (((((((A1.out.set 0 _).set 1 _).set 2 _).set 3 _).set 4 _).set 5 _))) rfl ⟨s0, sl, sc, rfl, ?_, ?_⟩
 ·refine HR.out.keep (K := (· = w.heap.size)) ?_ (fun h => HR.out.apart h A1.out rfl)
  repeat' (refine Keep.setCell (M := (· = w.heap.size)) ?_ (Or.inl (by simp)) _)
  exact Keep.refl _ _
 ·repeat' (refine Below.setCell ?_ (by simp; try omega) _)
  exact B1
set_option maxHeartbeats 2000000 in
theorem fTake_of (v : Int) (d : Bool) (s0 : Option Addr) (sl sc : Nat) (Q : World → Prop) (w : World) (hlt : q < w.heap.size)
  (hc : ∀ w1, Below w.heap.size w w1 → Calls Tryz.prog 192 #[.pointer (some ⟨q, 0, none⟩), .agg #[.int .u64 v, .bool d, .slice s0 sl sc]] w1 fun e w' => e = .returned (.tuple #[]) ∧ Q w' ∧ Keep (fun k => k < w.heap.size) w1 w') :
  Calls Tryz.prog 217 #[.pointer (some ⟨q, 0, none⟩), .agg #[.int .u64 v, .bool d, .slice s0 sl sc]] w fun e w' => e = .returned (.tuple #[]) ∧ Q w' := by
 have HC := Lib.hid hc
 clear hc
 go_enter Tryz.func217, Tryz.ntmps217
 go_wp2_with fail
 go_region_held3 (fun w' => w'.cell? ⟨w.heap.size, 0, none⟩ = some (.int .u64 v) ∧ w'.cell? ⟨w.heap.size, 1, none⟩ = some (.bool d) ∧ w'.cell? ⟨w.heap.size, 2, none⟩ = some (.slice s0 sl sc)) (first | go_keep | trivial)
  (first
   | (go_at_call 192; refine (HC.out _ (by go_grown)).mono ?_; rintro e w2 ⟨rfl, hQ, hk⟩; have hc := fun o => hk.cell (b := w.heap.size) o (by simp) (by simp)))
 all_goals
  clear hc
  go_wp2
  go_end0
  exact ⟨rfl, hQ⟩
theorem fNext_any (w : World) (h : FixI w O q m) :
  Calls Tryz.prog 216 #[.pointer (some ⟨q, 0, none⟩)] w fun e w' => ∃ s0 sl sc, e = .returned (.tuple #[m.want.V (.slice s0 sl sc), .bool m.live]) ∧ RdB w' (.slice s0 sl sc) m.want.b ∧ Below w.heap.size w w' :=
 fNext_of w h.lt (fun w1 b1 => fcNext_any w1 (h.below b1).at_)
theorem FixTo.i {m m' : FixM} (h : FixI w O q m) (hto : FixTo w O q m' w') (hf : m'.fine) : FixI w' (Gr O w w') q m' := by
 have hlt := h.lt
 refine ⟨hto.1, ?_, hf⟩
 rintro (h1 | h1)
 ·exact h.nq h1
 ·omega
theorem fTake_any (x : AN) (s0 : Option Addr) (sl sc : Nat) (w : World) (h : FixI w O q m) (hl : m.live = true) (hx : inU x.v) :
  Calls Tryz.prog 217 #[.pointer (some ⟨q, 0, none⟩), .agg #[.int .u64 x.v, .bool x.d, .slice s0 sl sc]] w fun e w' => e = .returned (.tuple #[]) ∧ FixI w' (Gr O w w') q (m.step x) ∧ Keep (· = q) w w' := by
 refine fTake_of x.v x.d s0 sl sc (fun w' => FixI w' (Gr O w w') q (m.step x) ∧ Keep (· = q) w w') w h.lt (fun w1 b1 => ?_)
 refine (fcTake_any x.v x.d x.b s0 sl sc w1 (h.below b1) hl hx).mono ?_
 rintro e w2 ⟨rfl, hto⟩
 have hlt := h.lt
 have hto' := hto.from (w := w) (O := O) (Below.keeps b1) (fun i hi => .inl hi)
 exact ⟨rfl, ⟨hto'.i h (h.fine.step hl hx), hto'.2⟩, hto.2.mono (fun i _ e => by show i < w.heap.size; rw [show i = q from e]; exact hlt)⟩
set_option maxHeartbeats 1000000 in
theorem fResult_any (w : World) (h : FixAt w O q m) :
  Calls Tryz.prog 62 #[.pointer (some ⟨q, 0, none⟩)] w fun e w' => e = .returned (.tuple #[.int .i64 m.n, .int .i64 m.e]) ∧ Below w.heap.size w w' := by
 obtain ⟨t, hm, _⟩ := h
 obtain ⟨_, _, _, _, c11, c12⟩ := fix_cells hm
 have hlt : q < w.heap.size := Blk.lt hm
 clear hm
 go_enter Tryz.func62, Tryz.ntmps62
 go_wp2_with fail
 go_quiet (fail)
 go_wp2
 go_ret2
 exact ⟨rfl, bel_drewN _ (Below.refl _ _)⟩
end Go.Proofs.YtggjhleomocojaaGreat
