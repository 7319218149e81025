/- A put in memory: New, Next, Take, Result, At. Conditions: as each says. -/
import Derived.Test.YtpicplkbblmbeaaPh
import Derived.Test.YtpicplkbblmbeaaPq
import Derived.Test.YtpicplkbblmbeaaKe
namespace Go.Proofs.Ytpicplkbblmbeaa
set_option maxRecDepth 100000
open Go.RowKit
set_option linter.unusedVariables false
set_option linter.unusedSimpArgs false
theorem AA.V_acc (c : AA) : c.acc.V = c.V (.slice none 0 0) := rfl
/-- The next access of a put's machine. -/
theorem pcNext_any {O : Nat → Prop} {q : Nat} {m : PutM} {bv : Value} (w : World) (h : PutI w O q m bv) :
    Calls Try.prog 76 #[.pointer (some ⟨q, 0, none⟩)] w fun e w' => ∃ s0 sl sc, e = .returned (.tuple #[m.want.V (.slice s0 sl sc), .bool m.live]) ∧ RdB w' (.slice s0 sl sc) m.want.b ∧ Below w.heap.size w w' := by
  have hA := h.at_
  obtain ⟨c, pc, hd, pos, cl, e⟩ := m
  have more : ∀ (a : AA) (f : Nat) (xs : List Value) (t : Value) (r : List Value), a.b = [] → Mch w q a.acc t r → Clo w O t f xs → Calls Try.prog 76 #[.pointer (some ⟨q, 0, none⟩)] w fun e w' => ∃ s0 sl sc, e = .returned (.tuple #[a.V (.slice s0 sl sc), .bool true]) ∧ RdB w' (.slice s0 sl sc) a.b ∧ Below w.heap.size w w' := by
    intro a f xs t r hb hm hc
    obtain ⟨bs, rfl, _⟩ := hc
    refine (cNext_more q a.k a.a a.n a.v a.x none 0 0 f _ r w hm).mono ?_
    rintro e w' ⟨rfl, b⟩
    exact ⟨none, 0, 0, rfl, by rw [hb]; exact .inl ⟨rfl, rfl⟩, b⟩
  cases pc with
  | done =>
    obtain ⟨t, hm, rfl⟩ := hA
    refine (cNext_end q _ _ w hm).mono ?_
    rintro e w' ⟨rfl, b⟩
    exact ⟨none, 0, 0, rfl, .inl ⟨rfl, rfl⟩, b⟩
  | hd0 => obtain ⟨t, hm, v1, c1, _⟩ := hA; exact more _ _ _ _ _ rfl hm c1
  | tl => obtain ⟨t, hm, v1, c1, _⟩ := hA; exact more _ _ _ _ _ rfl hm c1
  | rm x => obtain ⟨t, hm, v1, ve, vt, c1, _⟩ := hA; exact more _ _ _ _ _ rfl hm c1
  | rs x y => obtain ⟨t, hm, v1, c1, _⟩ := hA; exact more _ _ _ _ _ rfl hm c1
  | ph x => obtain ⟨t, hm, v1, ve, vt, c1, _⟩ := hA; exact more _ _ _ _ _ rfl hm c1
  | ps x y => obtain ⟨t, hm, v1, c1, _⟩ := hA; exact more _ _ _ _ _ rfl hm c1
  | cs x y => obtain ⟨t, hm, v1, c1, _⟩ := hA; exact more _ _ _ _ _ rfl hm c1
  | pd x => obtain ⟨t, hm, v1, c1, _⟩ := hA; exact more _ _ _ _ _ rfl hm c1
  | wh x => obtain ⟨t, hm, v1, c1, _⟩ := hA; exact more _ _ _ _ _ rfl hm c1
  | fi x => obtain ⟨t, hm, v1, c1, _⟩ := hA; exact more _ _ _ _ _ rfl hm c1
  | wb a p l =>
    obtain ⟨f0, ⟨b, off, cap, n, t, hm, hn, hl0, hc, hcm, ⟨cb, ab, nb, bb, tb, rfl, _⟩, ob, hcell⟩, _⟩ := hA
    refine (cNext_more q 6 p n 0 0 (some ⟨b, off, none⟩) n n _ _ _ w hm).mono ?_
    rintro e2 w' ⟨rfl, b2⟩
    have hn' : (n : Int) = min (l.length : Int) 8 := by omega
    refine ⟨some ⟨b, off, none⟩, n, n, ?_, ?_, b2⟩
    · simp only [AA.V, PutM.want, PutM.live, Acc.V]
      rw [hn']
    · have hl8 : (l.take 8).length = n := by simp; omega
      show RdB w' _ (l.take 8)
      rw [← hl8]
      refine .inr <| .inr ⟨b, off, _, rfl, Nat.le_refl _, by omega, fun i hi => ?_⟩
      have hci := hcell i (by omega)
      rw [b2.cell (p := ⟨b, off + i, none⟩) (World.block_lt_of_cell? w _ hci), hci, gB_take _ _ _ (by omega)]
set_option maxHeartbeats 1000000 in
theorem pNext_any {O : Nat → Prop} {q : Nat} {m : PutM} {bv : Value} (w : World) (h : PutI w O q m bv) :
    Calls Try.prog 31 #[.pointer (some ⟨q, 0, none⟩)] w fun e w' => ∃ s0 sl sc, e = .returned (.tuple #[m.want.V (.slice s0 sl sc), .bool m.live]) ∧ RdB w' (.slice s0 sl sc) m.want.b ∧ Below w.heap.size w w' := by
  have hlt : q < w.heap.size := by obtain ⟨c, t, hm⟩ := h.at_.mch; exact Blk.lt hm
  have HI := Lib.hid h
  obtain ⟨W, hW⟩ : ∃ W, W = m.want := ⟨_, rfl⟩
  obtain ⟨L, hL⟩ : ∃ L, L = m.live := ⟨_, rfl⟩
  have HW := Lib.hid hW
  have HL := Lib.hid hL
  rw [← hW, ← hL]
  clear h hW hL
  go_enter Try.func31, Try.ntmps31
  go_wp2_with fail
  refine (pcNext_any (w.alloc (.cells #[.int .i64 0, .int .i64 0, .int .i64 0, .int .u64 0, .int .u64 0, .slice none 0 0] 47)) ⟨HI.out.at_.keep (Below.keeps (M := fun _ => False) ((Below.refl w.heap.size w).alloc (Nat.le_refl _) _)) (fun _ _ => id) id, HI.out.rd.below ((Below.refl w.heap.size w).alloc (Nat.le_refl _) _), HI.out.ob, HI.out.nq, HI.out.fine⟩).mono ?_
  rintro e w1 ⟨s0, sl, sc, rfl, hr, b1⟩
  rw [← HW.out, ← HL.out]
  rw [← HW.out] at hr
  unfold AA.V
  dsimp only
  have z1 := b1.size
  simp at z1
  have A1 := Lib.hid (Blk.below (Blk.made w #[.int .i64 0, .int .i64 0, .int .i64 0, .int .u64 0, .int .u64 0, .slice none 0 0] 47) b1 (by simp))
  have B1 : Below w.heap.size w w1 := ((Below.refl w.heap.size w).alloc (Nat.le_refl _) _).trans (b1.mono (by simp))
  have y1 : w.heap.size < w1.heap.size := by omega
  have HR := Lib.hid hr
  clear b1 hr
  have a0 := A1.out.cell 0
  have a1 := A1.out.cell 1
  have a2 := A1.out.cell 2
  have a3 := A1.out.cell 3
  have a4 := A1.out.cell 4
  have a5 := A1.out.cell 5
  have e0 := A1.out.frozen 0
  have e1 := A1.out.frozen 1
  have e2 := A1.out.frozen 2
  have e3 := A1.out.frozen 3
  have e4 := A1.out.frozen 4
  have e5 := A1.out.frozen 5
  simp only [List.getElem?_toArray, List.getElem?_cons_zero, List.getElem?_cons_succ] at a0 a1 a2 a3 a4 a5
  go_wp2
  refine bodyPost_ret (v := .tuple #[W.V (.slice s0 sl sc), .bool L]) (res_aa (c := W) rfl rfl rfl (((((((A1.out.set 0 _).set 1 _).set 2 _).set 3 _).set 4 _).set 5 _))) rfl ⟨s0, sl, sc, rfl, ?_, ?_⟩
  · refine HR.out.keep (K := (· = w.heap.size)) ?_ (fun h => HR.out.apart h A1.out rfl)
    repeat' (refine Keep.setCell (M := (· = w.heap.size)) ?_ (Or.inl (by simp)) _)
    exact Keep.refl _ _
  · repeat' (refine Below.setCell ?_ (by simp; try omega) _)
    exact B1
theorem PutTo.i {w w' : World} {O : Nat → Prop} {q : Nat} {m m' : PutM} {bv : Value} (h : PutI w O q m bv) (hto : PutTo w O q m' bv w') (hc : m'.c = m.c) (hf : m'.fine) : PutI w' (Gr O w w') q m' bv := by
  obtain ⟨c, t, hm⟩ := h.at_.mch
  have hlt : q < w.heap.size := Blk.lt hm
  refine ⟨hto.1, ?_, fun i hi => .inl (h.ob i hi), ?_, hf⟩
  · rw [hc]
    exact h.rd.keepP hto.2 (fun i hi e => h.nq (e ▸ h.ob i hi))
  · rintro (h1 | h1)
    · exact h.nq h1
    · omega
theorem PutM.step_c (m : PutM) (x : AN) : (m.step x).c = m.c := by
  unfold PutM.step PutM.gapped
  repeat' split
  all_goals rfl
theorem PutI.keep {w w' : World} {O M : Nat → Prop} {q : Nat} {m : PutM} {bv : Value} (h : PutI w O q m bv) (k : Keep M w w') (hd : ∀ i, O i → ¬ M i) (hq : ¬ M q) : PutI w' O q m bv :=
  ⟨h.at_.keep k hd hq, h.rd.keepP k (fun i hi => hd i (h.ob i hi)), h.ob, h.nq, h.fine⟩
theorem PutI.below {w w' : World} {O : Nat → Prop} {q : Nat} {m : PutM} {bv : Value} (h : PutI w O q m bv) (b : Below w.heap.size w w') : PutI w' O q m bv := h.keep (M := fun _ => False) (Below.keeps b) (fun _ _ => id) id
set_option maxHeartbeats 2000000 in
/-- Take. -/
theorem pTake_any {O : Nat → Prop} {q : Nat} {m : PutM} {bv : Value} (x : AN) (s0 : Option Addr) (sl sc : Nat) (w : World) (h : PutI w O q m bv) (hl : m.live = true) (hx : inU x.v) :
    Calls Try.prog 28 #[.pointer (some ⟨q, 0, none⟩), .agg #[.int .u64 x.v, .bool x.d, .slice s0 sl sc]] w fun e w' => e = .returned (.tuple #[]) ∧ PutI w' (Gr O w w') q (m.step x) bv ∧ Keep (· = q) w w' := by
  have hlt : q < w.heap.size := by obtain ⟨c, t, hm⟩ := h.at_.mch; exact Blk.lt hm
  have HI := Lib.hid h
  have HF := Lib.hid (h.fine.step hl hx)
  clear h
  go_enter Try.func28, Try.ntmps28
  go_wp2_with fail
  go_region_held3 (fun w' => w'.cell? ⟨w.heap.size, 0, none⟩ = some (.int .u64 x.v) ∧ w'.cell? ⟨w.heap.size, 1, none⟩ = some (.bool x.d) ∧ w'.cell? ⟨w.heap.size, 2, none⟩ = some (.slice s0 sl sc)) (first | go_keep | trivial)
    (first
      | (go_at_call 73; refine (pcTake_any x.v x.d x.b s0 sl sc _ (HI.out.below (by go_grown)) hl).mono ?_; rintro e w2 ⟨rfl, hto⟩; have hc := fun o => hto.2.cell (b := w.heap.size) o (by simp) (by show ¬ w.heap.size = q; omega)))
  all_goals
    clear hc
    go_wp2
    go_end0
    have hto2 := hto.from (w := w) (O := O) (((Keep.refl _ w).alloc _).drew) (fun i hi => .inl hi)
    exact ⟨rfl, hto2.i HI.out (PutM.step_c m x) HF.out, hto2.2⟩
theorem qPp (w : World) (a : Addr) : (binOp .eql 68 (.pointer (some a)) (.pointer none)).run Try.prog w = .ok (.bool false) w := by kernel_rfl
/-- How it ended. -/
def PutM.rv (m : PutM) : Int := if m.e = 0 then m.pos else 0
set_option maxHeartbeats 1000000 in
theorem pResult_any {O : Nat → Prop} {q : Nat} {m : PutM} {bv : Value} (w : World) (h : PutAt w O q m bv) :
    Calls Try.prog 33 #[.pointer (some ⟨q, 0, none⟩)] w fun e w' => e = .returned (.tuple #[.int .i64 m.rv, .int .i64 m.e]) ∧ Below w.heap.size w w' := by
  obtain ⟨c, t, hm⟩ := h.mch
  obtain ⟨_, _, _, _, _, _, c13, _, c15⟩ := put_cells hm
  have hlt : q < w.heap.size := Blk.lt hm
  clear h hm
  by_cases he : m.e = 0
  · have hv : m.rv = m.pos := if_pos he
    rw [hv]
    rw [he] at c15 ⊢
    clear hv he
    go_enter Try.func33, Try.ntmps33
    go_wp2
    go_ret2
    exact ⟨rfl, Below.refl _ _⟩
  · have hv : m.rv = 0 := if_neg he
    rw [hv]
    have he' : (m.e != 0) = true := by simpa using he
    clear hv
    go_enter Try.func33, Try.ntmps33
    go_wp2_with fail
    go_quiet (fail)
    go_wp2
    go_ret2
    exact ⟨rfl, bel_drewN _ (Below.refl _ _)⟩
set_option maxHeartbeats 1000000 in
theorem pAt_any {O : Nat → Prop} {q : Nat} {m : PutM} {bv : Value} (w : World) (h : PutAt w O q m bv) :
    Calls Try.prog 32 #[.pointer (some ⟨q, 0, none⟩)] w fun e w' => e = .returned (.tuple #[.int .i64 m.pos, .bool m.cl]) ∧ Below w.heap.size w w' := by
  obtain ⟨c, t, hm⟩ := h.mch
  obtain ⟨_, _, _, _, _, _, c13, c14, c15⟩ := put_cells hm
  have hlt : q < w.heap.size := Blk.lt hm
  clear h hm
  go_enter Try.func32, Try.ntmps32
  go_wp2_with fail
  go_quiet (fail)
  go_wp2
  go_ret2
  exact ⟨rfl, bel_drewN _ (Below.refl _ _)⟩
theorem bel_drewP {B : Nat} {w w' : World} (h : Below B w.drew w') : Below B w w' := ⟨h.os, h.tape, h.output, h.size, h.block⟩
theorem Blk.made2 (w : World) (o : Obj) (cs : Array Value) (T : TypeId) : Blk ((w.alloc o).alloc (.cells cs T)) (w.heap.size + 1) cs.toList := by
  have h := Blk.made (w.alloc o) cs T
  rw [World.size_alloc] at h
  exact h
theorem OwB.weak {E B B' : Nat} {w : World} {v : Value} {l : List Int} (h : OwB E B w v l) (hB : B' ≤ B) : OwB E B' w v l := by
  obtain ⟨h1, h2⟩ := h
  refine ⟨h1, h2.imp id ?_⟩
  rintro ⟨g, cap, cur, e1, e2, e3⟩
  exact ⟨g, cap, cur, e1, Nat.le_trans hB e2, e3⟩
theorem OwB.fresh {E B : Nat} {w : World} {v : Value} {l : List Int} (h : OwB E B w v l) : ∀ i, v.ownBlock = some i → B ≤ i ∧ i < w.heap.size := fun i hi => World.ownsRow.lt h i hi
theorem alV8 {n : Int} (h0 : 0 ≤ n) (h1 : n ≤ 131072) : szV n 8 8 = (n + 15) / 8 * 8 := by
  have hp : isP 8 = true := by decide
  have e1 : decide (n < 0) = false := decide_eq_false (by omega)
  have e2 : decide (131072 < n) = false := decide_eq_false (by omega)
  have e3 : decide (n + 8 < 0) = false := decide_eq_false (by omega)
  have e4 : decide (4611686018427387904 < n + 8) = false := decide_eq_false (by omega)
  unfold szV szBad alV alBad
  rw [e1, e2, e3, e4, hp]
  simp only [Bool.or_false, Bool.not_true, Bool.false_eq_true, if_false]
  split <;> omega
set_option maxHeartbeats 4000000 in
/-- New. -/
theorem pNew_any (b s typ : Int) (s0 : Option Addr) (sl sc : Nat) (l : List Int) (w : World) (hr : RdB w (.slice s0 sl sc) l) (hl : l.length ≤ 70368744177664) (hB : IsB l) (hb0 : -9223372036854775808 ≤ b) (hb1 : b ≤ 9223372036854775807) (hs0 : -9223372036854775808 ≤ s) (hs1 : s ≤ 9223372036854775807) :
    Calls Try.prog 26 #[.agg #[.int .i64 b, .int .i64 s], .int .i32 typ, .slice s0 sl sc] w fun e w' => ∃ q bv, e = .returned (.pointer (some ⟨q, 0, none⟩)) ∧ w.heap.size ≤ q ∧ q < w'.heap.size ∧ PutI w' (fun k => w.heap.size ≤ k ∧ k < w'.heap.size ∧ k ≠ q) q (PutC.init ⟨b, s, typ, l⟩) bv ∧ Below w.heap.size w w' := by
  have HR := Lib.hid hr
  have hsl := rd_len hr
  have HSL := Lib.hid hsl
  have HB := Lib.hid hB
  have HL := Lib.hid hl
  have b1 : Below w.heap.size w (w.alloc (.cells #[.int .i64 b, .int .i64 s] 67)) := by go_grown
  have R1 := Lib.hid (hr.below b1)
  have X1 := Lib.hid (Blk.made w #[.int .i64 b, .int .i64 s] 67)
  clear hr hsl hB b1
  go_enter Try.func26, Try.ntmps26
  go_upto_region 1 with fail
  obtain ⟨w1, hw1⟩ : ∃ w1, w1 = w.alloc (.cells #[.int .i64 b, .int .i64 s] 67) := ⟨_, rfl⟩
  rw [← hw1] at R1 X1 ⊢
  have y1 : w.heap.size < w1.heap.size := by rw [hw1]; simp
  have B1 := Lib.hid (show Below w.heap.size w w1 by rw [hw1]; go_grown)
  have x0 := X1.out.cell 0
  have x1 := X1.out.cell 1
  simp only [List.getElem?_cons_zero, List.getElem?_cons_succ] at x0 x1
  clear hw1
  go_cut [7] from 10 to 15 (fun pp wx => ∃ q tb a n c, pp = .pointer (some ⟨tb, 0, none⟩) ∧ Blk wx tb [.pointer (some ⟨q, 0, none⟩)] ∧ w1.heap.size ≤ tb ∧ w1.heap.size ≤ q ∧ tb ≠ q ∧ Mch wx q accZ .nilFunc [.int .i64 b, .int .i64 s, .int .i32 typ, .slice a n c, .int .i64 0, .int .u64 0, .int .i64 0, .bool false, .int .i64 10] ∧ OwB 5 w1.heap.size wx (.slice a n c) l ∧ (Value.slice a n c).ownBlock ≠ some q ∧ (Value.slice a n c).ownBlock ≠ some tb ∧ Below w1.heap.size w1 wx)
  case first =>
    refine wp_region_held_drew (S := fun w' => w'.cell? ⟨w.heap.size, 0, none⟩ = some (.int .i64 b) ∧ w'.cell? ⟨w.heap.size, 1, none⟩ = some (.int .i64 s)) (by kernel_rfl) ?_ (fun hHeld => ?_)
    · try dsimp only
      exact ⟨x0, x1⟩
    refine wpAnyH_take (i := 0) (v := ?_) rfl (by kernel_rfl) (by kernel_rfl) (by kernel_rfl) (fun _ _ _ h => h) (Or.inl ⟨by rfl, ?_⟩) (by assumption) ?_
    rotate_left
    · intro w0 hSw
      (try dsimp only at hSw)
      go_simp
      try with_reducible rfl
    try simp only [Act.put, List.getElem_toArray, List.getElem_cons_zero, List.getElem_cons_succ, List.setIfInBounds_toArray, List.set_cons_zero, List.set_cons_succ]
    refine wpAnyH_take (i := 1) (v := ?_) rfl (by kernel_rfl) (by kernel_rfl) (by kernel_rfl) (fun _ _ _ h => h) (Or.inl ⟨by rfl, ?_⟩) (by assumption) ?_
    rotate_left
    · intro w0 hSw
      (try dsimp only at hSw)
      go_simp
      try with_reducible rfl
    try simp only [Act.put, List.getElem_toArray, List.getElem_cons_zero, List.getElem_cons_succ, List.setIfInBounds_toArray, List.set_cons_zero, List.set_cons_succ]
    refine wpAnyH_take (i := 2) (v := ?_) rfl (by kernel_rfl) (by kernel_rfl) (by kernel_rfl) (fun _ _ _ h => h) (Or.inl ⟨by rfl, ?_⟩) (by assumption) ?_
    rotate_left
    · intro w0 hSw
      (try dsimp only at hSw)
      go_simp
      try with_reducible rfl
    try simp only [Act.put, List.getElem_toArray, List.getElem_cons_zero, List.getElem_cons_succ, List.setIfInBounds_toArray, List.set_cons_zero, List.set_cons_succ]
    refine wpAnyH_ready (rs := [3, 6]) (by kernel_rfl) (by simp) ?_
    refine AllReadyH.cons rfl (fun K hK => ?_) (AllReadyH.cons rfl (fun K hK => ?_) AllReadyH.nil)
    · go_simp
      go_at_call 66
      refine (clone_any _ l _ (R1.out.below (by go_grown)) HL.out).mono ?_
      rintro e w2 ⟨s2, rfl, o2, b2⟩
      obtain ⟨a2, n2, c2, rfl⟩ := o2.isSliceC
      have hc := fun o => b2.cell (p := ⟨w.heap.size, o, none⟩) (by simp; omega)
      have z2 := b2.size
      simp at z2
      have b2' : Below w1.heap.size w1 w2 := bel_drewP b2
      have z2' : w1.heap.size ≤ w2.heap.size := b2'.size
      go_wp2_with fail
      refine hK.out _ _ ?_ (fun hHeld => ?_)
      · try dsimp only
        go_keep
      clear hK K
      try simp only [Act.put, List.getElem_toArray, List.getElem_cons_zero, List.getElem_cons_succ, List.setIfInBounds_toArray, List.set_cons_zero, List.set_cons_succ]
      refine wpAnyH_take (i := 4) (v := ?_) rfl (by kernel_rfl) (by kernel_rfl) (by kernel_rfl) (fun _ _ _ h => h) (Or.inl ⟨by rfl, ?_⟩) (by assumption) ?_
      rotate_left
      · intro w0 hSw
        (try dsimp only at hSw)
        go_simp
        try with_reducible rfl
      try simp only [Act.put, List.getElem_toArray, List.getElem_cons_zero, List.getElem_cons_succ, List.setIfInBounds_toArray, List.set_cons_zero, List.set_cons_succ]
      refine wpAnyH_ready (rs := [5, 6]) (by kernel_rfl) (by simp) ?_
      refine AllReadyH.cons rfl (fun K hK => ?_) (AllReadyH.cons rfl (fun K hK => ?_) AllReadyH.nil)
      · go_simp
        go_wp2_with fail
        refine hK.out _ _ ?_ (fun hHeld => ?_)
        · try dsimp only
          go_keep
        clear hK K
        try simp only [Act.put, List.getElem_toArray, List.getElem_cons_zero, List.getElem_cons_succ, List.setIfInBounds_toArray, List.set_cons_zero, List.set_cons_succ]
        refine wpAnyH_ready (rs := [6]) (by kernel_rfl) (by simp) ?_
        refine AllReadyH.cons rfl (fun K hK => ?_) AllReadyH.nil
        go_simp
        refine hK.out _ _ ?_ (fun hHeld => ?_)
        · try dsimp only
          go_keep
        clear hK K
        try simp only [Act.put, List.getElem_toArray, List.getElem_cons_zero, List.getElem_cons_succ, List.setIfInBounds_toArray, List.set_cons_zero, List.set_cons_succ]
        refine wpAnyH_ready (rs := [7]) (by kernel_rfl) (by simp) ?_
        refine AllReadyH.cons rfl (fun K hK => ?_) AllReadyH.nil
        go_simp
        refine hK.out _ _ ?_ (fun hHeld => ?_)
        · try dsimp only
          go_keep
        clear hK K
        try simp only [Act.put, List.getElem_toArray, List.getElem_cons_zero, List.getElem_cons_succ, List.setIfInBounds_toArray, List.set_cons_zero, List.set_cons_succ]
        refine wpAnyH_done (by kernel_rfl) ?_ _
        go_wp2_with fail
        go_meet
        exact ⟨w2.heap.size, w2.heap.size + 1, a2, n2, c2, rfl, by simpa using Blk.made (w2.alloc _) _ _, by omega, by omega, by omega, (Blk.made w2 _ _).alloc _, (o2.below ((Below.refl _ _).alloc (Nat.le_refl _) _)).below ((Below.refl _ _).alloc (Nat.le_refl _) _), fun e => by have := (o2.fresh _ e).2; omega, fun e => by have := (o2.fresh _ e).2; omega, (b2'.alloc z2' _).alloc (by simp; omega) _⟩
      · go_simp
        go_wp2_with fail
        refine hK.out _ _ ?_ (fun hHeld => ?_)
        · try dsimp only
          go_keep
        clear hK K
        try simp only [Act.put, List.getElem_toArray, List.getElem_cons_zero, List.getElem_cons_succ, List.setIfInBounds_toArray, List.set_cons_zero, List.set_cons_succ]
        refine wpAnyH_ready (rs := [5]) (by kernel_rfl) (by simp) ?_
        refine AllReadyH.cons rfl (fun K hK => ?_) AllReadyH.nil
        go_simp
        refine hK.out _ _ ?_ (fun hHeld => ?_)
        · try dsimp only
          go_keep
        clear hK K
        try simp only [Act.put, List.getElem_toArray, List.getElem_cons_zero, List.getElem_cons_succ, List.setIfInBounds_toArray, List.set_cons_zero, List.set_cons_succ]
        refine wpAnyH_ready (rs := [7]) (by kernel_rfl) (by simp) ?_
        refine AllReadyH.cons rfl (fun K hK => ?_) AllReadyH.nil
        go_simp
        refine hK.out _ _ ?_ (fun hHeld => ?_)
        · try dsimp only
          go_keep
        clear hK K
        try simp only [Act.put, List.getElem_toArray, List.getElem_cons_zero, List.getElem_cons_succ, List.setIfInBounds_toArray, List.set_cons_zero, List.set_cons_succ]
        refine wpAnyH_done (by kernel_rfl) ?_ _
        go_wp2_with fail
        go_meet
        exact ⟨w2.heap.size + 1, w2.heap.size, a2, n2, c2, rfl, (Blk.made w2 _ _).alloc _, by omega, by omega, by omega, Blk.made2 w2 _ _ _, (o2.below ((Below.refl _ _).alloc (Nat.le_refl _) _)).below ((Below.refl _ _).alloc (Nat.le_refl _) _), fun e => by have := (o2.fresh _ e).2; omega, fun e => by have := (o2.fresh _ e).2; omega, (b2'.alloc z2' _).alloc (by simp; omega) _⟩
    · go_simp
      go_wp2_with fail
      refine hK.out _ _ ?_ (fun hHeld => ?_)
      · try dsimp only
        go_keep
      clear hK K
      try simp only [Act.put, List.getElem_toArray, List.getElem_cons_zero, List.getElem_cons_succ, List.setIfInBounds_toArray, List.set_cons_zero, List.set_cons_succ]
      refine wpAnyH_ready (rs := [3]) (by kernel_rfl) (by simp) ?_
      refine AllReadyH.cons rfl (fun K hK => ?_) AllReadyH.nil
      go_simp
      go_at_call 66
      refine (clone_any _ l _ (R1.out.below (by go_grown)) HL.out).mono ?_
      rintro e w2 ⟨s2, rfl, o2, b2⟩
      obtain ⟨a2, n2, c2, rfl⟩ := o2.isSliceC
      have hc := fun o => b2.cell (p := ⟨w.heap.size, o, none⟩) (by simp; omega)
      have z2 := b2.size
      simp at z2
      have E2 : Blk w2 w1.heap.size [.pointer none] := Blk.below (Blk.made w1.drew #[.pointer none] _) b2 (by simp)
      have hd2 := E2.cell 0
      simp only [List.getElem?_cons_zero] at hd2
      have hf2 := E2.frozen 0
      have ne2 : w1.heap.size ≠ w2.heap.size := by omega
      go_wp2_with fail
      refine hK.out _ _ ?_ (fun hHeld => ?_)
      · try dsimp only
        go_keep
      clear hK K
      try simp only [Act.put, List.getElem_toArray, List.getElem_cons_zero, List.getElem_cons_succ, List.setIfInBounds_toArray, List.set_cons_zero, List.set_cons_succ]
      refine wpAnyH_take (i := 4) (v := ?_) rfl (by kernel_rfl) (by kernel_rfl) (by kernel_rfl) (fun _ _ _ h => h) (Or.inl ⟨by rfl, ?_⟩) (by assumption) ?_
      rotate_left
      · intro w0 hSw
        (try dsimp only at hSw)
        go_simp
        try with_reducible rfl
      try simp only [Act.put, List.getElem_toArray, List.getElem_cons_zero, List.getElem_cons_succ, List.setIfInBounds_toArray, List.set_cons_zero, List.set_cons_succ]
      refine wpAnyH_ready (rs := [5]) (by kernel_rfl) (by simp) ?_
      refine AllReadyH.cons rfl (fun K hK => ?_) AllReadyH.nil
      go_simp
      refine hK.out _ _ ?_ (fun hHeld => ?_)
      · try dsimp only
        go_keep
      clear hK K
      try simp only [Act.put, List.getElem_toArray, List.getElem_cons_zero, List.getElem_cons_succ, List.setIfInBounds_toArray, List.set_cons_zero, List.set_cons_succ]
      refine wpAnyH_ready (rs := [7]) (by kernel_rfl) (by simp) ?_
      refine AllReadyH.cons rfl (fun K hK => ?_) AllReadyH.nil
      have E3 := Blk.alloc E2 (Obj.cells #[Value.int IntKind.i64 0, Value.int IntKind.i64 0, Value.int IntKind.i64 0, Value.int IntKind.u64 0, Value.int IntKind.u64 0, Value.slice none 0 0, Value.nilFunc, Value.int IntKind.i64 b, Value.int IntKind.i64 s, Value.int IntKind.i32 typ, Value.slice a2 n2 c2, Value.int IntKind.i64 0, Value.int IntKind.u64 0, Value.int IntKind.i64 0, Value.bool false, Value.int IntKind.i64 10] 144)
      have hd3 := E3.cell 0
      simp only [List.getElem?_cons_zero] at hd3
      have hf3 := E3.frozen 0
      have XB := (Blk.alloc (Blk.below (Blk.drew (Blk.alloc X1.out _)) b2 (by simp; omega)) (Obj.cells #[Value.int IntKind.i64 0, Value.int IntKind.i64 0, Value.int IntKind.i64 0, Value.int IntKind.u64 0, Value.int IntKind.u64 0, Value.slice none 0 0, Value.nilFunc, Value.int IntKind.i64 b, Value.int IntKind.i64 s, Value.int IntKind.i32 typ, Value.slice a2 n2 c2, Value.int IntKind.i64 0, Value.int IntKind.u64 0, Value.int IntKind.i64 0, Value.bool false, Value.int IntKind.i64 10] 144)).far (a := ⟨w1.heap.size, 0, none⟩) (by show w.heap.size ≠ w1.heap.size; omega) (Value.pointer (some ⟨w2.heap.size, 0, none⟩))
      go_simp
      refine hK.out _ _ ?_ (fun hHeld => ?_)
      · try dsimp only
        exact ⟨XB.cell 0, XB.cell 1⟩
      clear hK K
      try simp only [Act.put, List.getElem_toArray, List.getElem_cons_zero, List.getElem_cons_succ, List.setIfInBounds_toArray, List.set_cons_zero, List.set_cons_succ]
      refine wpAnyH_done (by kernel_rfl) ?_ _
      go_wp2_with fail
      go_meet
      have b2' : Below w1.heap.size w1 w2 := ((Below.refl _ w1).alloc (Nat.le_refl _) _).trans (bel_drewP (b2.mono (by simp)))
      have f2 : ∀ i, (Value.slice a2 n2 c2).ownBlock = some i → w1.heap.size + 1 ≤ i ∧ i < w2.heap.size := fun i hi => by have := o2.fresh i hi; simpa using this
      exact ⟨w2.heap.size, w1.heap.size, a2, n2, c2, rfl, E3.set 0 _, Nat.le_refl _, by omega, ne2, (Blk.made w2 _ _).far (a := ⟨w1.heap.size, 0, none⟩) (by show w2.heap.size ≠ w1.heap.size; omega) _, OwB.farNe (a := ⟨w1.heap.size, 0, none⟩) ((o2.weak (by simp)).below ((Below.refl _ _).alloc (Nat.le_refl _) _)) (fun e => by have := (f2 _ e).1; exact absurd this (Nat.not_succ_le_self _)) _, fun e => by have := (f2 _ e).2; omega, fun e => by have := (f2 _ e).1; omega, (b2'.alloc (by omega) _).setCell (p := ⟨w1.heap.size, 0, none⟩) (Nat.le_refl _) _⟩
  case rest =>
    obtain ⟨q, tb, a, n, c, rfl, htb, ltb, lq, ntq, hm, ho, nq, nt, bb⟩ := hcut
    have ha := ho.rd
    have hfr := ho.fresh
    have B2 := Lib.hid (B1.out.trans (bb.mono (by omega)))
    have X2 := Lib.hid (X1.out.below bb y1)
    have x0' := X2.out.cell 0
    have x1' := X2.out.cell 1
    simp only [List.getElem?_toArray, List.getElem?_cons_zero, List.getElem?_cons_succ] at x0' x1'
    have zc := bb.size
    have TB := Lib.hid htb
    have HM := Lib.hid hm
    have HA := Lib.hid ha
    have t0 := htb.cell 0
    simp only [List.getElem?_cons_zero] at t0
    have ltq := hm.lt
    have ltt := htb.lt
    have c15 := Blk.cell hm 15
    have f15 := Blk.frozen hm 15
    have c11 := Blk.cell hm 11
    have f11 := Blk.frozen hm 11
    simp only [Acc.cs, accZ, List.cons_append, List.nil_append, List.getElem?_cons_zero, List.getElem?_cons_succ] at c15 c11
    clear htb hm ho bb ha x0 x1
    have HN : Hid ((PutC.init ⟨b, s, typ, l⟩).fine) := by
      refine Lib.hid ⟨HB.out, fun h => ?_, ⟨Int.le_refl 0, show (0 : Int) ≤ 18446744073709551615 by omega⟩, ?_⟩
      · unfold PutC.init PutM.live at h
        dsimp only at h
        by_cases hk : (PutC.mk b s typ l).ok = true
        · exact hk
        · rw [if_neg hk] at h
          cases h
      · unfold PutC.init PutM.pcOk
        dsimp only
        split <;> first | trivial | (rename_i h; split at h <;> simp at h)
    by_cases hg : rgOk b s = true
    · have hE : rgE b s = 0 := if_pos hg
      have RG := Lib.hid hE
      obtain ⟨r1, r2, r3, r4, r5, r6⟩ := rgOk_bd hg
      have HG := Lib.hid hg
      clear hE r1 hg
      by_cases ht : typ < 1
      · have hto : ¬ 1 ≤ typ := by omega
        have hg := HG.out
        have hI : PutC.init ⟨b, s, typ, l⟩ = ⟨⟨b, s, typ, l⟩, .done, 0, 0, false, 1⟩ := by
          have h1 : (PutC.mk b s typ l).ok = false := by unfold PutC.ok; simp [hg, hto]
          unfold PutC.init PutC.e0
          rw [h1]
          simp [hg, hto]
        have hN0 : (PutC.mk b s typ l).nd = 0 := by
          have h1 : (PutC.mk b s typ l).ok = false := by unfold PutC.ok; simp [hg, hto]
          unfold PutC.nd
          rw [h1]
          rfl
        have HI := Lib.hid hI
        have HN0 := Lib.hid hN0
        clear hI hN0
        clear hg hto
        go_wp2_with fail
        refine (rCheck_any b s _ hb0 hb1 hs0 hs1).mono ?_
        rintro e w3 ⟨rfl, b3⟩
        rw [RG.out]
        have z3 := b3.size
        have HM3 := Lib.hid (show Mch w3 q accZ .nilFunc [.int .i64 b, .int .i64 s, .int .i32 typ, .slice a n c, .int .i64 0, .int .u64 0, .int .i64 0, .bool false, .int .i64 10] from Blk.below HM.out b3 ltq)
        have TB3 := Lib.hid (TB.out.below b3 ltt)
        have HA3 := Lib.hid (HA.out.below b3)
        have B3 := Lib.hid (B2.out.trans (b3.mono (by omega)))
        have X3 := Lib.hid (X2.out.below b3 (by omega))
        have t3 := TB3.out.cell 0
        have y0 := X3.out.cell 0
        have y1' := X3.out.cell 1
        have d15 := Blk.cell HM3.out 15
        have g15 := Blk.frozen HM3.out 15
        have d11 := Blk.cell HM3.out 11
        have g11 := Blk.frozen HM3.out 11
        simp only [List.getElem?_toArray, Acc.cs, accZ, List.cons_append, List.nil_append, List.getElem?_cons_zero, List.getElem?_cons_succ] at t3 y0 y1' d15 d11
        have ltq3 : q < w3.heap.size := by omega
        have ltt3 : tb < w3.heap.size := by omega
        have ltw3 : w.heap.size < w3.heap.size := by omega
        clear b3 HM TB HA B2 X2 t0 x0' x1' c15 f15 c11 f11
        go_wp2
        go_ret
        refine ⟨q, .slice a n c, rfl, by omega, by simpa using ltq3, ?_, B3.out.setCell (p := ⟨q, 15, none⟩) (by show w.heap.size ≤ q; omega) _⟩
        have hN := HN.out
        rw [HI.out] at hN ⊢
        have hm := Blk.set HM3.out 15 (.int .i64 1)
        refine ⟨PutAt.made (by nofun) (t := .nilFunc) (by rw [show (PutM.mk ⟨b, s, typ, l⟩ .done 0 0 false 1).rest (.slice a n c) = [.int .i64 b, .int .i64 s, .int .i32 typ, .slice a n c, .int .i64 (PutC.mk b s typ l).nd, .int .u64 0, .int .i64 0, .bool false, .int .i64 1] from rfl, HN0.out]; exact hm) rfl, ?_, ?_, fun h => h.2.2 rfl, hN⟩
        · refine HA3.out.keepP (K := (· = q)) (Keep.setCell (M := (· = q)) (Keep.refl _ _) (p := ⟨q, 15, none⟩) (.inl rfl) _) (fun i hi e => nq (e ▸ hi))
        · intro i hi
          have h9 := hfr i hi
          refine ⟨by omega, by simp; omega, fun e => nq (e ▸ hi)⟩
      · have hto : 1 ≤ typ := by omega
        have hs8 : s.tdiv 8 = s / 8 := Int.tdiv_eq_ediv_of_nonneg (by omega)
        have W8 : IntKind.i64.wrap (s / 8) = s / 8 := IntWalk.i64_in _ ⟨by omega, by omega⟩
        have W8' : IntKind.i64.wrap (s.tdiv 8) = s.tdiv 8 := IntWalk.i64_in _ ⟨by omega, by omega⟩
        by_cases hlen : s / 8 < (l.length : Int)
        · have hle : ¬ (l.length : Int) ≤ s / 8 := by omega
          have hg := HG.out
          have hI : PutC.init ⟨b, s, typ, l⟩ = ⟨⟨b, s, typ, l⟩, .done, 0, 0, false, 4⟩ := by
            have h1 : (PutC.mk b s typ l).ok = false := by unfold PutC.ok; simp [hg, hto, hle]
            unfold PutC.init PutC.e0
            rw [h1]
            simp [hg, hto, hle]
          have hN0 : (PutC.mk b s typ l).nd = 0 := by
            have h1 : (PutC.mk b s typ l).ok = false := by unfold PutC.ok; simp [hg, hto, hle]
            unfold PutC.nd
            rw [h1]
            rfl
          have HI := Lib.hid hI
          have HN0 := Lib.hid hN0
          clear hI hN0
          clear hg hle
          have hlen' : s / 8 < (sl : Int) := by have := HSL.out; omega
          rw [← hs8] at hlen'
          go_wp2_with fail
          refine (rCheck_any b s _ hb0 hb1 hs0 hs1).mono ?_
          rintro e w3 ⟨rfl, b3⟩
          rw [RG.out]
          have z3 := b3.size
          have HM3 := Lib.hid (show Mch w3 q accZ .nilFunc [.int .i64 b, .int .i64 s, .int .i32 typ, .slice a n c, .int .i64 0, .int .u64 0, .int .i64 0, .bool false, .int .i64 10] from Blk.below HM.out b3 ltq)
          have TB3 := Lib.hid (TB.out.below b3 ltt)
          have HA3 := Lib.hid (HA.out.below b3)
          have B3 := Lib.hid (B2.out.trans (b3.mono (by omega)))
          have X3 := Lib.hid (X2.out.below b3 (by omega))
          have t3 := TB3.out.cell 0
          have y0 := X3.out.cell 0
          have y1' := X3.out.cell 1
          have d15 := Blk.cell HM3.out 15
          have g15 := Blk.frozen HM3.out 15
          have d11 := Blk.cell HM3.out 11
          have g11 := Blk.frozen HM3.out 11
          simp only [List.getElem?_toArray, Acc.cs, accZ, List.cons_append, List.nil_append, List.getElem?_cons_zero, List.getElem?_cons_succ] at t3 y0 y1' d15 d11
          have ltq3 : q < w3.heap.size := by omega
          have ltt3 : tb < w3.heap.size := by omega
          have ltw3 : w.heap.size < w3.heap.size := by omega
          clear b3 HM TB HA B2 X2 t0 x0' x1' c15 f15 c11 f11
          go_wp2
          go_ret
          refine ⟨q, .slice a n c, rfl, by omega, by simpa using ltq3, ?_, B3.out.setCell (p := ⟨q, 15, none⟩) (by show w.heap.size ≤ q; omega) _⟩
          have hN := HN.out
          rw [HI.out] at hN ⊢
          have hm := Blk.set HM3.out 15 (.int .i64 4)
          refine ⟨PutAt.made (by nofun) (t := .nilFunc) (by rw [show (PutM.mk ⟨b, s, typ, l⟩ .done 0 0 false 4).rest (.slice a n c) = [.int .i64 b, .int .i64 s, .int .i32 typ, .slice a n c, .int .i64 (PutC.mk b s typ l).nd, .int .u64 0, .int .i64 0, .bool false, .int .i64 4] from rfl, HN0.out]; exact hm) rfl, ?_, ?_, fun h => h.2.2 rfl, hN⟩
          · refine HA3.out.keepP (K := (· = q)) (Keep.setCell (M := (· = q)) (Keep.refl _ _) (p := ⟨q, 15, none⟩) (.inl rfl) _) (fun i hi e => nq (e ▸ hi))
          · intro i hi
            have h9 := hfr i hi
            refine ⟨by omega, by simp; omega, fun e => nq (e ▸ hi)⟩
        · have hle : (l.length : Int) ≤ s / 8 := by omega
          have hg := HG.out
          have hok : (PutC.mk b s typ l).ok = true := by unfold PutC.ok; simp [hg, hto, hle]
          have hI : PutC.init ⟨b, s, typ, l⟩ = ⟨⟨b, s, typ, l⟩, .hd0, 0, 0, false, 10⟩ := by
            unfold PutC.init PutC.e0
            rw [hok]
            simp [hg, hto, hle]
          have hnd : szV (sl : Int) 8 8 = (PutC.mk b s typ l).nd := by
            unfold PutC.nd
            rw [hok, if_pos rfl, HSL.out]
            exact alV8 (by omega) (by omega)
          have HI := Lib.hid hI
          have HOK := Lib.hid hok
          obtain ⟨ND, hND⟩ : ∃ N, N = (PutC.mk b s typ l).nd := ⟨_, rfl⟩
          rw [← hND] at hnd
          have HND := Lib.hid hND
          have hnd' := Lib.hid hnd
          clear hg hle hok hI hND hnd
          have hlen' : ¬ s.tdiv 8 < (sl : Int) := by have := HSL.out; omega
          have hend : b + s + 8 ≤ 9000000 := by omega
          have W9 : IntKind.i64.wrap (b + s + 8) = b + s + 8 := IntWalk.i64_in _ ⟨by omega, by omega⟩
          go_wp2_with fail
          refine (rCheck_any b s _ hb0 hb1 hs0 hs1).mono ?_
          rintro e w3 ⟨rfl, b3⟩
          rw [RG.out]
          have z3 := b3.size
          have HM3 := Lib.hid (show Mch w3 q accZ .nilFunc [.int .i64 b, .int .i64 s, .int .i32 typ, .slice a n c, .int .i64 0, .int .u64 0, .int .i64 0, .bool false, .int .i64 10] from Blk.below HM.out b3 ltq)
          have TB3 := Lib.hid (TB.out.below b3 ltt)
          have HA3 := Lib.hid (HA.out.below b3)
          have B3 := Lib.hid (B2.out.trans (b3.mono (by omega)))
          have X3 := Lib.hid (X2.out.below b3 (by omega))
          have t3 := TB3.out.cell 0
          have y0 := X3.out.cell 0
          have y1' := X3.out.cell 1
          have d15 := Blk.cell HM3.out 15
          have g15 := Blk.frozen HM3.out 15
          have d11 := Blk.cell HM3.out 11
          have g11 := Blk.frozen HM3.out 11
          simp only [List.getElem?_toArray, Acc.cs, accZ, List.cons_append, List.nil_append, List.getElem?_cons_zero, List.getElem?_cons_succ] at t3 y0 y1' d15 d11
          have ltq3 : q < w3.heap.size := by omega
          have ltt3 : tb < w3.heap.size := by omega
          have ltw3 : w.heap.size < w3.heap.size := by omega
          clear b3 HM TB HA B2 X2 t0 x0' x1' c15 f15 c11 f11
          go_wp2_with fail
          refine (recordSize_any (sl : Int) _).mono ?_
          rintro e w4 ⟨rfl, rfl⟩
          rw [hnd'.out]
          go_upto_region 4 with fail
          have M4 := Lib.hid (show Mch (w3.setCell ⟨q, 11, none⟩ (.int .i64 ND)) q accZ .nilFunc ((PutC.init ⟨b, s, typ, l⟩).rest (.slice a n c)) by
            rw [HI.out]
            have hm := Blk.set HM3.out 11 (.int .i64 ND)
            rw [HND.out] at hm ⊢
            exact hm)
          have K4 := Lib.hid (show Keep (· = q) w3 (w3.setCell ⟨q, 11, none⟩ (.int .i64 ND)) from Keep.setCell (M := (· = q)) (Keep.refl _ _) (p := ⟨q, 11, none⟩) (.inl rfl) _)
          have H4 := Lib.hid (show PutW (w3.setCell ⟨q, 11, none⟩ (.int .i64 ND)) (fun k => w.heap.size ≤ k ∧ k < w3.heap.size ∧ k ≠ q) q (PutC.init ⟨b, s, typ, l⟩) (.slice a n c) from
            ⟨M4.out, HA3.out.keepP K4.out (fun i hi e => nq (e ▸ hi)), fun i hi => by have h9 := hfr i hi; exact ⟨by omega, by omega, fun e => nq (e ▸ hi)⟩, fun h => h.2.2 rfl, HOK.out⟩)
          have B4 := Lib.hid (show Below w.heap.size w (w3.setCell ⟨q, 11, none⟩ (.int .i64 ND)) from B3.out.setCell (p := ⟨q, 11, none⟩) (by show w.heap.size ≤ q; omega) _)
          have T4 := Lib.hid (show Blk (w3.setCell ⟨q, 11, none⟩ (.int .i64 ND)) tb [.pointer (some ⟨q, 0, none⟩)] from Blk.far TB3.out (a := ⟨q, 11, none⟩) ntq _)
          have z4 : (w3.setCell ⟨q, 11, none⟩ (.int .i64 ND)).heap.size = w3.heap.size := by simp
          have EN : (PutC.init ⟨b, s, typ, l⟩).end = b + s := rfl
          obtain ⟨w4, hw4⟩ : ∃ w4, w4 = w3.setCell ⟨q, 11, none⟩ (.int .i64 ND) := ⟨_, rfl⟩
          rw [← hw4] at M4 K4 H4 B4 T4 z4 ⊢
          have t4 := T4.out.cell 0
          simp only [List.getElem?_cons_zero] at t4
          have Z4 := Lib.hid z4
          have ltq4 : q < w4.heap.size := by omega
          have ltt4 : tb < w4.heap.size := by omega
          have ltw4 : w.heap.size < w4.heap.size := by omega
          clear hw4 t3 y0 y1' d15 g15 d11 g11 z4 HM3 TB3 HA3 B3 X3
          go_region_held3 (fun w' => w'.cell? ⟨tb, 0, none⟩ = some (.pointer (some ⟨q, 0, none⟩))) (first | go_keep | trivial)
            (first
              | (go_at_call 69; refine (pEnd_any _ H4.out.drew).mono ?_; rintro e w5 ⟨rfl, b5⟩; rw [EN]; have hc5 := fun o => b5.cell (p := ⟨tb, o, none⟩) (by simpa using ltt4))
              | (go_at_call 68; refine (cLoad_any q _ _ _ (b + s + 8) 8 _ _ _ ((H4.out.drew).below b5).mch).mono ?_; rintro e w6 ⟨rfl, t6, m6, l6, k6⟩; have hc6 := fun o => k6.cell (b := tb) o (by have := b5.size; simp at this; omega) (by show ¬ tb = q; exact ntq)))
          all_goals
            clear hc5 hc6
            have z5 := b5.size
            have z6 := k6.size
            simp at z5
            have T6 := ((T4.out.drew).below b5 (by simpa using ltt4)).keep k6 (by show ¬ tb = q; exact ntq)
            have t6' := T6.cell 0
            simp only [List.getElem?_cons_zero] at t6'
            have ltt6 : tb < w6.heap.size := by omega
            go_wp2
            go_ret
            have b4' := B4.out
            refine ⟨q, .slice a n c, rfl, by omega, by omega, ?_, ?_⟩
            · have hz := Z4.out
              refine ⟨PutAt.made (by rw [HI.out]; nofun) (t := t6) (by rw [HI.out] at m6 ⊢; exact m6) (by rw [HI.out]; exact ⟨_, l6.mono (fun i hi => ⟨by have := hi.1; omega, hi.2, by have := hi.1; omega⟩), Clo.mk1 T6 ⟨by omega, by omega, ntq⟩⟩), ?_, fun i hi => by have h9 := hfr i hi; exact ⟨by omega, by omega, fun e => nq (e ▸ hi)⟩, fun h => h.2.2 rfl, HN.out⟩
              exact ((H4.out.rd.below (bel_drewN 1 (Below.refl _ _))).below b5).keepP k6 (fun i hi e => nq (e ▸ hi))
            · exact (b4'.trans ((bel_drewN 1 (Below.refl w4.heap.size w4)).mono (by omega))).trans ((b5.mono (by simp; omega)).trans (k6.below (by omega) (fun k h1 h2 => by omega)))
    · have hE : rgE b s = 1 := if_neg hg
      have RG := Lib.hid hE
      clear hE
      have hI : PutC.init ⟨b, s, typ, l⟩ = ⟨⟨b, s, typ, l⟩, .done, 0, 0, false, 1⟩ := by
        have h1 : (PutC.mk b s typ l).ok = false := by unfold PutC.ok; simp [hg]
        unfold PutC.init PutC.e0
        rw [h1]
        simp [hg]
      have hN0 : (PutC.mk b s typ l).nd = 0 := by
        have h1 : (PutC.mk b s typ l).ok = false := by unfold PutC.ok; simp [hg]
        unfold PutC.nd
        rw [h1]
        rfl
      have HI := Lib.hid hI
      have HN0 := Lib.hid hN0
      clear hI hN0
      go_wp2_with fail
      refine (rCheck_any b s _ hb0 hb1 hs0 hs1).mono ?_
      rintro e w3 ⟨rfl, b3⟩
      rw [RG.out]
      have z3 := b3.size
      have HM3 := Lib.hid (show Mch w3 q accZ .nilFunc [.int .i64 b, .int .i64 s, .int .i32 typ, .slice a n c, .int .i64 0, .int .u64 0, .int .i64 0, .bool false, .int .i64 10] from Blk.below HM.out b3 ltq)
      have TB3 := Lib.hid (TB.out.below b3 ltt)
      have HA3 := Lib.hid (HA.out.below b3)
      have B3 := Lib.hid (B2.out.trans (b3.mono (by omega)))
      have X3 := Lib.hid (X2.out.below b3 (by omega))
      have t3 := TB3.out.cell 0
      have y0 := X3.out.cell 0
      have y1' := X3.out.cell 1
      have d15 := Blk.cell HM3.out 15
      have g15 := Blk.frozen HM3.out 15
      have d11 := Blk.cell HM3.out 11
      have g11 := Blk.frozen HM3.out 11
      simp only [List.getElem?_toArray, Acc.cs, accZ, List.cons_append, List.nil_append, List.getElem?_cons_zero, List.getElem?_cons_succ] at t3 y0 y1' d15 d11
      have ltq3 : q < w3.heap.size := by omega
      have ltt3 : tb < w3.heap.size := by omega
      have ltw3 : w.heap.size < w3.heap.size := by omega
      clear b3 HM TB HA B2 X2 t0 x0' x1' c15 f15 c11 f11
      go_wp2
      go_ret
      refine ⟨q, .slice a n c, rfl, by omega, by simpa using ltq3, ?_, B3.out.setCell (p := ⟨q, 15, none⟩) (by show w.heap.size ≤ q; omega) _⟩
      have hN := HN.out
      rw [HI.out] at hN ⊢
      have hm := Blk.set HM3.out 15 (.int .i64 1)
      refine ⟨PutAt.made (by nofun) (t := .nilFunc) (by rw [show (PutM.mk ⟨b, s, typ, l⟩ .done 0 0 false 1).rest (.slice a n c) = [.int .i64 b, .int .i64 s, .int .i32 typ, .slice a n c, .int .i64 (PutC.mk b s typ l).nd, .int .u64 0, .int .i64 0, .bool false, .int .i64 1] from rfl, HN0.out]; exact hm) rfl, ?_, ?_, fun h => h.2.2 rfl, hN⟩
      · refine HA3.out.keepP (K := (· = q)) (Keep.setCell (M := (· = q)) (Keep.refl _ _) (p := ⟨q, 15, none⟩) (.inl rfl) _) (fun i hi e => nq (e ▸ hi))
      · intro i hi
        have h9 := hfr i hi
        refine ⟨by omega, by simp; omega, fun e => nq (e ▸ hi)⟩
end Go.Proofs.Ytpicplkbblmbeaa
