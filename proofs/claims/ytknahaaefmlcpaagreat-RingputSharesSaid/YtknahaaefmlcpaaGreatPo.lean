/- The next access of a put, and whose its bytes are; a row of answers that grows. Conditions: as each says. -/
import Derived.Test.YtknahaaefmlcpaaGreatQb
import Derived.Test.YtknahaaefmlcpaaGreatTc
namespace Go.Proofs.YtknahaaefmlcpaaGreat
set_option maxRecDepth 100000
open Go.RowKit
set_option linter.unusedVariables false
set_option linter.unusedSimpArgs false
/-- The next access of a put's machine. -/
theorem pcNext_own {O : Nat → Prop} {q : Nat} {m : PutM} {bv : Value} (w : World) (h : PutI w O q m bv) :
    Calls Tryz.prog 66 #[.pointer (some ⟨q, 0, none⟩)] w fun e w' => ∃ s0 sl sc, e = .returned (.tuple #[m.want.V (.slice s0 sl sc), .bool m.live]) ∧ RdB w' (.slice s0 sl sc) m.want.b ∧ Below w.heap.size w w' ∧ ∀ i, (Value.slice s0 sl sc).ownBlock = some i → O i := by
  have hA := h.at_
  obtain ⟨c, pc, hd, pos, cl, e⟩ := m
  have more : ∀ (a : AA) (f : Nat) (xs : List Value) (t : Value) (r : List Value), a.b = [] → Mch w q a.acc t r → Clo w O t f xs → Calls Tryz.prog 66 #[.pointer (some ⟨q, 0, none⟩)] w fun e w' => ∃ s0 sl sc, e = .returned (.tuple #[a.V (.slice s0 sl sc), .bool true]) ∧ RdB w' (.slice s0 sl sc) a.b ∧ Below w.heap.size w w' ∧ ∀ i, (Value.slice s0 sl sc).ownBlock = some i → O i := by
    intro a f xs t r hb hm hc
    obtain ⟨bs, rfl, _⟩ := hc
    refine (cNext_more q a.k a.a a.n a.v a.x none 0 0 f _ r w hm).mono ?_
    rintro e w' ⟨rfl, b⟩
    exact ⟨none, 0, 0, rfl, by rw [hb]; exact .inl ⟨rfl, rfl⟩, b, fun i hi => by cases hi⟩
  cases pc with
  | done =>
    obtain ⟨t, hm, rfl⟩ := hA
    refine (cNext_end q _ _ w hm).mono ?_
    rintro e w' ⟨rfl, b⟩
    exact ⟨none, 0, 0, rfl, .inl ⟨rfl, rfl⟩, b, fun i hi => by cases hi⟩
  | hd0 => obtain ⟨t, hm, v1, c1, _⟩ := hA; exact more _ _ _ _ _ rfl hm c1
  | tl => obtain ⟨t, hm, v1, c1, _⟩ := hA; exact more _ _ _ _ _ rfl hm c1
  | rm x => obtain ⟨t, hm, v1, ve, vt, c1, _⟩ := hA; exact more _ _ _ _ _ rfl hm c1
  | rs x y => obtain ⟨t, hm, v1, c1, _⟩ := hA; exact more _ _ _ _ _ rfl hm c1
  | ph x => obtain ⟨t, hm, v1, ve, vt, c1, _⟩ := hA; exact more _ _ _ _ _ rfl hm c1
  | ps x y => obtain ⟨t, hm, v1, c1, _⟩ := hA; exact more _ _ _ _ _ rfl hm c1
  | cs x y => obtain ⟨t, hm, v1, c1, _⟩ := hA; exact more _ _ _ _ _ rfl hm c1
  | pd x => obtain ⟨t, hm, v1, c1, _⟩ := hA; exact more _ _ _ _ _ rfl hm c1
  | wh x => obtain ⟨t, hm, v1, c1, _⟩ := hA; exact more _ _ _ _ _ rfl hm c1
  | fi x => obtain ⟨t, hm, v1, c1, _⟩ := hA; exact more _ _ _ _ _ rfl hm c1
  | wb a p l =>
    obtain ⟨f0, ⟨b, off, cap, n, t, hm, hn, hl0, hc, hcm, ⟨cb, ab, nb, bb, tb, rfl, _⟩, ob, hcell⟩, _⟩ := hA
    refine (cNext_more q 6 p n 0 0 (some ⟨b, off, none⟩) n n _ _ _ w hm).mono ?_
    rintro e2 w' ⟨rfl, b2⟩
    have hn' : (n : Int) = min (l.length : Int) 8 := by omega
    refine ⟨some ⟨b, off, none⟩, n, n, ?_, ?_, b2, fun i hi => by cases hi; exact ob⟩
    · simp only [AA.V, PutM.want, PutM.live, Acc.V]
      rw [hn']
    · have hl8 : (l.take 8).length = n := by simp; omega
      show RdB w' _ (l.take 8)
      rw [← hl8]
      refine .inr <| .inr ⟨b, off, _, rfl, Nat.le_refl _, by omega, fun i hi => ?_⟩
      have hci := hcell i (by omega)
      rw [b2.cell (p := ⟨b, off + i, none⟩) (World.block_lt_of_cell? w _ hci), hci, gB_take _ _ _ (by omega)]
set_option maxHeartbeats 1000000 in
theorem pNext_own {O : Nat → Prop} {q : Nat} {m : PutM} {bv : Value} (w : World) (h : PutI w O q m bv) :
    Calls Tryz.prog 13 #[.pointer (some ⟨q, 0, none⟩)] w fun e w' => ∃ s0 sl sc, e = .returned (.tuple #[m.want.V (.slice s0 sl sc), .bool m.live]) ∧ RdB w' (.slice s0 sl sc) m.want.b ∧ Below w.heap.size w w' ∧ ∀ i, (Value.slice s0 sl sc).ownBlock = some i → O i := by
  have hlt : q < w.heap.size := by obtain ⟨c, t, hm⟩ := h.at_.mch; exact Blk.lt hm
  have HI := Lib.hid h
  obtain ⟨W, hW⟩ : ∃ W, W = m.want := ⟨_, rfl⟩
  obtain ⟨L, hL⟩ : ∃ L, L = m.live := ⟨_, rfl⟩
  have HW := Lib.hid hW
  have HL := Lib.hid hL
  rw [← hW, ← hL]
  clear h hW hL
  go_enter Tryz.func13, Tryz.ntmps13
  go_wp2_with fail
  refine (pcNext_own (w.alloc (.cells #[.int .i64 0, .int .i64 0, .int .i64 0, .int .u64 0, .int .u64 0, .slice none 0 0] 37)) ⟨HI.out.at_.keep (Below.keeps (M := fun _ => False) ((Below.refl w.heap.size w).alloc (Nat.le_refl _) _)) (fun _ _ => id) id, HI.out.rd.below ((Below.refl w.heap.size w).alloc (Nat.le_refl _) _), HI.out.ob, HI.out.nq, HI.out.fine⟩).mono ?_
  rintro e w1 ⟨s0, sl, sc, rfl, hr, b1, hown⟩
  rw [← HW.out, ← HL.out]
  rw [← HW.out] at hr
  unfold AA.V
  dsimp only
  have z1 := b1.size
  simp at z1
  have A1 := Lib.hid (Blk.below (Blk.made w #[.int .i64 0, .int .i64 0, .int .i64 0, .int .u64 0, .int .u64 0, .slice none 0 0] 37) b1 (by simp))
  have B1 : Below w.heap.size w w1 := ((Below.refl w.heap.size w).alloc (Nat.le_refl _) _).trans (b1.mono (by simp))
  have y1 : w.heap.size < w1.heap.size := by omega
  have HR := Lib.hid hr
  clear b1 hr
  have a0 := A1.out.cell 0
  have a1 := A1.out.cell 1
  have a2 := A1.out.cell 2
  have a3 := A1.out.cell 3
  have a4 := A1.out.cell 4
  have a5 := A1.out.cell 5
  have e0 := A1.out.frozen 0
  have e1 := A1.out.frozen 1
  have e2 := A1.out.frozen 2
  have e3 := A1.out.frozen 3
  have e4 := A1.out.frozen 4
  have e5 := A1.out.frozen 5
  simp only [List.getElem?_toArray, List.getElem?_cons_zero, List.getElem?_cons_succ] at a0 a1 a2 a3 a4 a5
  go_wp2
  refine bodyPost_ret (v := .tuple #[W.V (.slice s0 sl sc), .bool L]) (res_aa (c := W) rfl rfl rfl (((((((A1.out.set 0 _).set 1 _).set 2 _).set 3 _).set 4 _).set 5 _))) rfl ⟨s0, sl, sc, rfl, ?_, ?_, hown⟩
  · refine HR.out.keep (K := (· = w.heap.size)) ?_ (fun h => HR.out.apart h A1.out rfl)
    repeat' (refine Keep.setCell (M := (· = w.heap.size)) ?_ (Or.inl (by simp)) _)
    exact Keep.refl _ _
  · repeat' (refine Below.setCell ?_ (by simp; try omega) _)
    exact B1
theorem aninfo : (Tryz.prog.info? 33).map (fun i => (i.zero, i.size, i.bytes)) = some (some (.agg #[.int .u64 0, .bool false, .slice none 0 0]), 3, 40) := by kernel_rfl
def AnsV.cs (x : AnsV) : List Value := [.int .u64 x.v, .bool x.d, x.s]
theorem anL_len (T : List AnsV) : (T.flatMap AnsV.cs).length = T.length * 3 := by
  induction T with
  | nil => rfl
  | cons x r ih => rw [List.flatMap_cons, List.length_append, ih]; show 3 + r.length * 3 = (r.length + 1) * 3; omega
theorem anL_at : ∀ (T : List AnsV) (k : Nat) (x : AnsV), T[k]? = some x → (T.flatMap AnsV.cs)[k * 3]? = some (.int .u64 x.v) ∧ (T.flatMap AnsV.cs)[k * 3 + 1]? = some (.bool x.d) ∧ (T.flatMap AnsV.cs)[k * 3 + 2]? = some x.s
  | [], k, x, h => by simp at h
  | y :: r, 0, x, h => by
    obtain rfl : y = x := by simpa using h
    exact ⟨rfl, rfl, rfl⟩
  | y :: r, k + 1, x, h => by
    obtain ⟨h1, h2, h3⟩ := anL_at r k x (by simpa using h)
    rw [List.flatMap_cons]
    have e : (AnsV.cs y).length = 3 := rfl
    refine ⟨?_, ?_, ?_⟩
    · rw [List.getElem?_append_right (by rw [e]; omega), e, show (k + 1) * 3 - 3 = k * 3 by omega]; exact h1
    · rw [List.getElem?_append_right (by rw [e]; omega), e, show (k + 1) * 3 + 1 - 3 = k * 3 + 1 by omega]; exact h2
    · rw [List.getElem?_append_right (by rw [e]; omega), e, show (k + 1) * 3 + 2 - 3 = k * 3 + 2 by omega]; exact h3
/-- A row of answers in memory of its own (P: its blocks, those of the answers' bytes, too). -/
structure AnO (w : World) (P : Nat → Prop) (tv : Value) (T : List AnsV) : Prop where
  own : w.ownsRow 0 33 3 tv T.length (T.flatMap AnsV.cs)
  blk : ∀ g, tv.ownBlock = some g → P g
  els : ∀ x ∈ T, (∃ a n c, x.s = .slice a n c) ∧ RdB w x.s x.b ∧ (∀ g, x.s.ownBlock = some g → P g ∧ tv.ownBlock ≠ some g) ∧ inU x.v
theorem AnO.none (w : World) (P : Nat → Prop) : AnO w P (.slice none 0 0) [] := ⟨World.ownsRow_nil _ _ _ _, (fun g h => by cases h), fun x h => (List.not_mem_nil h).elim⟩
theorem AnO.keep {w w' : World} {P K : Nat → Prop} {tv : Value} {T : List AnsV} (h : AnO w P tv T) (k : Keep K w w') (hd : ∀ i, P i → ¬ K i) : AnO w' P tv T :=
  ⟨ownsRow_keep h.own k (fun i hi => hd i (h.blk i hi)), h.blk, fun x hx => ⟨(h.els x hx).1, (h.els x hx).2.1.keepP k (fun i hi => hd i ((h.els x hx).2.2.1 i hi).1), (h.els x hx).2.2⟩⟩
theorem AnO.below {w w' : World} {P : Nat → Prop} {tv : Value} {T : List AnsV} (h : AnO w P tv T) (b : Below w.heap.size w w') : AnO w' P tv T := h.keep (K := fun _ => False) (Below.keeps b) (fun _ _ => id)
theorem AnO.mono {w : World} {P P' : Nat → Prop} {tv : Value} {T : List AnsV} (h : AnO w P tv T) (hp : ∀ i, P i → P' i) : AnO w P' tv T :=
  ⟨h.own, fun i hi => hp i (h.blk i hi), fun x hx => ⟨(h.els x hx).1, (h.els x hx).2.1, fun g hg => ⟨hp g ((h.els x hx).2.2.1 g hg).1, ((h.els x hx).2.2.1 g hg).2⟩, (h.els x hx).2.2.2⟩⟩
theorem gA_mem {T : List AnsV} {i : Nat} (hi : i < T.length) : T[i]? = some (gA T i) ∧ gA T i ∈ T := by
  have e : T[i]? = some (gA T i) := by unfold gA; simp [List.getD, hi]
  exact ⟨e, List.mem_of_getElem? e⟩
theorem AnO.rdA {w : World} {P : Nat → Prop} {tv : Value} {T : List AnsV} (h : AnO w P tv T) : RdA w tv T := by
  have ho := h.own
  rcases ho.2 with ⟨rfl, h0⟩ | ⟨g, cap, cur, rfl, _, _, h1, h2, _⟩
  · exact .inl ⟨rfl, List.eq_nil_of_length_eq_zero h0⟩
  · refine .inr (.inr ⟨g, 0, cap, rfl, h1, h2, fun i hi => ?_⟩)
    obtain ⟨m1, m2, m3⟩ := anL_at T i _ (gA_mem hi).1
    rw [Nat.zero_add, World.ownsRow.cellAt ho _ (by omega), World.ownsRow.cellAt ho _ (by omega), World.ownsRow.cellAt ho _ (by omega)]
    exact ⟨m1, m2, m3⟩
theorem AnO.sls {w : World} {P : Nat → Prop} {tv : Value} {T : List AnsV} (h : AnO w P tv T) : Sls T := fun i hi => (h.els _ (gA_mem hi).2).1
theorem AnO.rdAs {w : World} {P : Nat → Prop} {tv : Value} {T : List AnsV} (h : AnO w P tv T) : RdAs w T := fun i hi => (h.els _ (gA_mem hi).2).2.1
theorem AnO.ins {w : World} {P : Nat → Prop} {tv : Value} {T : List AnsV} (h : AnO w P tv T) : ∀ i, i < T.length → inU (gA T i).v := fun i hi => (h.els _ (gA_mem hi).2).2.2.2
theorem AnO.sl {w : World} {P : Nat → Prop} {tv : Value} {T : List AnsV} (h : AnO w P tv T) : ∃ a c, tv = .slice a T.length c := rdA_slice h.rdA
/-- One answer more. -/
theorem AnO.push {w0 w1 : World} {P : Nat → Prop} {tv tv' : Value} {T : List AnsV} (h : AnO w0 P tv T) (x : AnsV) (hx : (∃ a n c, x.s = .slice a n c) ∧ RdB w0 x.s x.b ∧ inU x.v) (hxo : ∀ g, x.s.ownBlock = some g → P g ∧ tv.ownBlock ≠ some g ∧ g < w0.heap.size) (hl : ∀ y ∈ T, ∀ g, y.s.ownBlock = some g → g < w0.heap.size)
    (k : Keep (fun i => tv.ownBlock = some i) w0 w1) (ho : w1.ownsRow 0 33 3 tv' (T.length + 1) (T.flatMap AnsV.cs ++ AnsV.cs x)) (hv : tv'.ownBlock = tv.ownBlock ∨ ∃ i, tv'.ownBlock = some i ∧ w0.heap.size ≤ i ∧ P i) : AnO w1 P tv' (T ++ [x]) := by
  refine ⟨?_, ?_, ?_⟩
  · rw [List.length_append, List.flatMap_append]
    simpa using ho
  · intro g hg
    rcases hv with e | ⟨i, e, _, hi⟩
    · rw [e] at hg
      exact h.blk g hg
    · rw [e] at hg
      cases hg
      exact hi
  · intro y hy
    have hne : ∀ g, (P g ∧ tv.ownBlock ≠ some g) → g < w0.heap.size → P g ∧ tv'.ownBlock ≠ some g := by
      intro g hg hlt
      refine ⟨hg.1, fun e2 => ?_⟩
      rcases hv with e | ⟨i, e, hi, _⟩
      · rw [e] at e2
        exact hg.2 e2
      · rw [e] at e2
        cases e2
        omega
    rcases List.mem_append.1 hy with hy | hy
    · obtain ⟨e1, e2, e3, e4⟩ := h.els y hy
      exact ⟨e1, e2.keepP k (fun i hi hk => (e3 i hi).2 hk), fun g hg => hne g (e3 g hg) (hl y hy g hg), e4⟩
    · obtain rfl := List.mem_singleton.1 hy
      exact ⟨hx.1, hx.2.1.keepP k (fun i hi hk => (hxo i hi).2.1 hk), fun g hg => hne g ⟨(hxo g hg).1, (hxo g hg).2.1⟩ (hxo g hg).2.2, hx.2.2⟩
end Go.Proofs.YtknahaaefmlcpaaGreat
