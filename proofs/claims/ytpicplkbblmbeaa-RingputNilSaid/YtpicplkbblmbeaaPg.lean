/- A put in memory: what its closures do. Conditions: as each says. -/
import Derived.Test.YtpicplkbblmbeaaPf
import Derived.Test.YtpicplkbblmbeaaHd
import Derived.Deep.CutRange
namespace Go.Proofs.Ytpicplkbblmbeaa
set_option maxRecDepth 100000
open Go.RowKit
set_option linter.unusedVariables false
set_option linter.unusedSimpArgs false
/-- What is done where the tail is known. -/
def PutM.tailed (m : PutM) (x : Int) : PutM := if m.fit x then m.gapped x else { m with pc := .rm x }
/-- What is done where the claim was made. -/
def PutM.claimed (m : PutM) (t pad : Int) : PutM := { m with pos := s64 (s64 t + pad), cl := true, pc := if pad = 0 then .wh (m.c.b + t % m.c.s) else .pd t }
theorem PutW.mono {w : World} {O O' : Nat → Prop} {q : Nat} {m : PutM} {bv : Value} (h : PutW w O q m bv) (hd : ∀ i, O i → O' i) (nq : ¬ O' q) : PutW w O' q m bv := ⟨h.mch, h.rd, fun i hi => hd _ (h.ob i hi), nq, h.ok⟩
theorem PutTo.from {w w1 w' : World} {O O1 : Nat → Prop} {q : Nat} {m : PutM} {bv : Value} (h : PutTo w1 O1 q m bv w') (k : Keep (· = q) w w1) (hO : ∀ i, O1 i → O i ∨ (w.heap.size ≤ i ∧ i < w1.heap.size)) : PutTo w O q m bv w' := by
  have z := h.2.size
  refine ⟨h.1.mono (fun i hi => ?_), k.trans h.2⟩
  rcases hi with hi | hi
  · rcases hO i hi with h | h
    · exact .inl h
    · exact .inr ⟨h.1, by omega⟩
  · exact .inr ⟨Nat.le_trans k.size hi.1, hi.2⟩
theorem PutW.c {w : World} {O : Nat → Prop} {q : Nat} {m m' : PutM} {bv : Value} (h : PutW w O q m bv) (hc : m'.c = m.c) (hd : m'.hd = m.hd) (hp : m'.pos = m.pos) (hl : m'.cl = m.cl) (he : m'.e = m.e) : PutW w O q m' bv := by
  refine ⟨?_, by rw [hc]; exact h.rd, h.ob, h.nq, by rw [hc]; exact h.ok⟩
  have := h.mch
  unfold PutM.rest at this ⊢
  rw [hc, hd, hp, hl, he]
  exact this
theorem PutAt.mch {w : World} {O : Nat → Prop} {q : Nat} {m : PutM} {bv : Value} (h : PutAt w O q m bv) : ∃ c t, Mch w q c t (m.rest bv) := by
  unfold PutAt at h
  split at h
  · obtain ⟨f0, ⟨b, off, cap, n, t, hm, _⟩, _⟩ := h
    exact ⟨_, _, hm⟩
  · obtain ⟨t, hm, _⟩ := h
    exact ⟨_, _, hm⟩
theorem enTailK : En 110 := enters_of Try.func110 (by kernel_rfl) rfl
theorem enNewK : En 70 := enters_of Try.func70 (by kernel_rfl) rfl
theorem enLookK : En 140 := enters_of Try.func140 (by kernel_rfl) rfl
theorem enRoom : En 111 := enters_of Try.func111 (by kernel_rfl) rfl
theorem enGap : En 113 := enters_of Try.func113 (by kernel_rfl) rfl
theorem enRoom2 : En 116 := enters_of Try.func116 (by kernel_rfl) rfl
theorem enGap2 : En 117 := enters_of Try.func117 (by kernel_rfl) rfl
theorem enClaimK : En 144 := enters_of Try.func144 (by kernel_rfl) rfl
theorem enClaimK1 : En 147 := enters_of Try.func147 (by kernel_rfl) rfl
theorem enWrite : En 157 := enters_of Try.func157 (by kernel_rfl) rfl
theorem enWrite1 : En 158 := enters_of Try.func158 (by kernel_rfl) rfl
theorem enWrite2 : En 159 := enters_of Try.func159 (by kernel_rfl) rfl
set_option maxHeartbeats 1000000 in
/-- Is there room? -/
theorem pRoom_any {O : Nat → Prop} {q : Nat} {m : PutM} {bv : Value} (x : Int) (pb tb : Nat) (w : World) (h : PutW w O q m bv) (hp : Blk w pb [ptr q]) (ht : Blk w tb [.int .u64 x]) :
    Calls Try.prog 111 #[ptr pb, ptr tb] w fun e w' => e = .returned (.bool (m.fit x)) ∧ Below w.heap.size w w' := by
  obtain ⟨b0, b1, b2, b3, b4, b5, b6, b7, b8⟩ := h.bd
  obtain ⟨c7, c8, c9, c10, c11, c12, _⟩ := put_cells h.mch
  have hlt := h.lt
  have l0 := hp.lt
  have l1 := ht.lt
  have p0 := hp.cell 0
  have t0 := ht.cell 0
  simp only [List.getElem?_cons_zero, ptr] at p0 t0
  have W1 : IntKind.u64.wrap m.c.s = m.c.s := IntWalk.u64_in _ ⟨by omega, by omega⟩
  have HF := Lib.hid (show m.fit x = decide (m.c.nd ≤ wrap64 (IntKind.u64.wrap (m.c.s - IntKind.u64.wrap (x - m.hd)))) by rw [wrap_u64', wrap_u64']; unfold PutM.fit wrap64 s64; rfl)
  unfold ptr
  clear h hp ht b0 b1
  go_enter Try.func111, Try.ntmps111
  go_wp2
  go_quiet (fail)
  go_wp2
  go_ret
  exact ⟨by rw [HF.out]; rfl, bel_drewN _ (Below.refl _ _)⟩
set_option maxHeartbeats 1000000 in
/-- Is there room at the ring's beginning? -/
theorem pRoom2_any {O : Nat → Prop} {q : Nat} {m : PutM} {bv : Value} (pb : Nat) (w : World) (h : PutW w O q m bv) (hp : Blk w pb [ptr q]) :
    Calls Try.prog 116 #[ptr pb] w fun e w' => e = .returned (.bool (decide (m.c.nd ≤ m.hd % m.c.s))) ∧ Below w.heap.size w w' := by
  have H := Lib.hid h
  obtain ⟨c7, c8, c9, c10, c11, c12, _⟩ := put_cells h.mch
  have hlt := h.lt
  have l0 := hp.lt
  have p0 := hp.cell 0
  simp only [List.getElem?_cons_zero, ptr] at p0
  unfold ptr
  clear h hp
  go_enter Try.func116, Try.ntmps116
  go_wp2_with fail
  go_quiet ((go_at_call 114; exact quietR (pPlace_any m.hd _ (H.out.below (bel_drewN _ (Below.refl _ _))))))
  go_wp2
  go_ret
  exact ⟨rfl, bel_drewN _ (Below.refl _ _)⟩
set_option maxHeartbeats 2000000 in
/-- Where there is a gap: claim it, too. -/
theorem pGap2_any {O : Nat → Prop} {q : Nat} {m : PutM} {bv : Value} (x g : Int) (pb tb gb : Nat) (w : World) (h : PutW w O q m bv) (hp : Blk w pb [ptr q]) (ht : Blk w tb [.int .u64 x]) (hg : Blk w gb [.int .i64 g]) (hg0 : 0 ≤ g) (hg1 : g ≤ 8192) :
    Calls Try.prog 117 #[ptr pb, ptr tb, ptr gb] w fun e w' => e = .returned (.tuple #[]) ∧ PutTo w O q { m with pc := .cs x g } bv w' := by
  have H := Lib.hid h
  have hlt := h.lt
  have l0 := hp.lt
  have l1 := ht.lt
  have l2 := hg.lt
  have p0 := hp.cell 0
  have t0 := ht.cell 0
  have g0 := hg.cell 0
  simp only [List.getElem?_cons_zero, ptr] at p0 t0 g0
  unfold ptr
  clear h hp ht hg
  go_enter Try.func117, Try.ntmps117
  go_wp2_with fail
  refine (pClaim_any x g _ H.out hg0 hg1).mono ?_
  rintro e w1 ⟨rfl, hQ⟩
  go_wp2
  go_end0
  exact ⟨rfl, hQ⟩
set_option maxHeartbeats 2000000 in
/-- Where there is room. -/
theorem pGap_any {O : Nat → Prop} {q : Nat} {m : PutM} {bv : Value} (x : Int) (pb tb : Nat) (w : World) (h : PutW w O q m bv) (hp : Blk w pb [ptr q]) (ht : Blk w tb [.int .u64 x]) (op : O pb) (ot : O tb) :
    Calls Try.prog 113 #[ptr pb, ptr tb] w fun e w' => e = .returned (.tuple #[]) ∧ PutTo w O q (m.gapped x) bv w' := by
  have H := Lib.hid h
  obtain ⟨b0, b1, b2, b3, b4, b5, b6, b7, b8⟩ := h.bd
  obtain ⟨c7, c8, c9, c10, c11, c12, _⟩ := put_cells h.mch
  have hlt := h.lt
  have l0 := hp.lt
  have l1 := ht.lt
  have P0 := Lib.hid hp
  have T0 := Lib.hid ht
  have p0 := hp.cell 0
  have t0 := ht.cell 0
  simp only [List.getElem?_cons_zero, ptr] at p0 t0
  have m1 := Int.emod_nonneg x (show m.c.s ≠ 0 by omega)
  have m2 := Int.emod_lt_of_pos x (show 0 < m.c.s by omega)
  have W1 : IntKind.i64.wrap (m.c.s - x % m.c.s) = m.c.s - x % m.c.s := IntWalk.i64_in _ ⟨by omega, by omega⟩
  unfold ptr
  clear h hp ht b0 b1
  go_enter Try.func113, Try.ntmps113
  go_wp2_with fail
  go_upto_region 0 with fail
  go_cut [2] from 3 to 11 (fun g wx => g = .pointer (some ⟨w.heap.size, 0, none⟩) ∧ wx = (w.alloc (.cells #[.int .i64 (m.c.s - x % m.c.s)] 2)).drew)
  case first =>
    go_region_held3 (fun w' => w'.cell? ⟨pb, 0, none⟩ = some (.pointer (some ⟨q, 0, none⟩)) ∧ w'.cell? ⟨tb, 0, none⟩ = some (.int .u64 x) ∧ w'.cell? ⟨q, 8, none⟩ = some (.int .i64 m.c.s)) (first | go_keep | trivial)
      (first
        | (go_at_call 114; refine (pPlace_any x _ (H.out.below (by go_grown))).mono ?_; rintro e w2 ⟨rfl, rfl⟩))
    all_goals (go_wp2_with fail; go_meet; exact ⟨rfl, rfl⟩)
  case rest =>
    obtain ⟨rfl, rfl⟩ := hcut
    have b1 : Below w.heap.size w (w.alloc (.cells #[.int .i64 (m.c.s - x % m.c.s)] 2)).drew := by go_grown
    have G1 := Lib.hid ((Blk.made w #[.int .i64 (m.c.s - x % m.c.s)] 2).drew)
    obtain ⟨w1, hw1⟩ : ∃ w1, w1 = (w.alloc (.cells #[.int .i64 (m.c.s - x % m.c.s)] 2)).drew := ⟨_, rfl⟩
    rw [← hw1] at b1 G1 ⊢
    have z1 : w1.heap.size = w.heap.size + 1 := by rw [hw1]; simp
    have d0 := (b1.cell (p := ⟨pb, 0, none⟩) l0).trans p0
    have d1 := (b1.cell (p := ⟨tb, 0, none⟩) l1).trans t0
    have d11 := (b1.cell (p := ⟨q, 11, none⟩) hlt).trans c11
    have g0 := G1.out.cell 0
    simp only [List.getElem?_toArray, List.getElem?_cons_zero] at g0
    have H1 := Lib.hid (H.out.below b1)
    have P1 := Lib.hid (P0.out.below b1 l0)
    have T1 := Lib.hid (T0.out.below b1 l1)
    have K1 := Lib.hid (show Keep (· = q) w w1 from Below.keeps b1)
    clear hw1 p0 t0 c7 c8 c9 c10 c11 c12 b1
    by_cases hg : m.c.nd ≤ m.c.s - x % m.c.s
    · have hG : m.gapped x = { m with pc := .cs x 0 } := by unfold PutM.gapped; rw [if_pos hg]
      have HG := Lib.hid hG
      clear hG
      go_wp2_with fail
      go_quiet (fail)
      go_wp2_with fail
      refine (pClaim_any x 0 _ (H1.out.below (bel_drewN _ (Below.refl _ _))) (by omega) (by omega)).mono ?_
      rintro e w5 ⟨rfl, hto⟩
      go_wp2
      refine bodyPost_ret (v := .tuple #[]) (results_none rfl _ _ _) rfl ⟨rfl, ?_⟩
      rw [HG.out]
      exact hto.from (K1.out.drewN _) (fun i hi => .inl hi)
    · have hG : m.gapped x = if m.c.nd ≤ m.hd % m.c.s then { m with pc := .cs x (m.c.s - x % m.c.s) } else { m with pc := .ph x } := by unfold PutM.gapped; rw [if_neg hg]
      have HG := Lib.hid hG
      clear hG
      go_wp2_with fail
      go_quiet (fail)
      go_wp2_with fail
      refine (pLook_any 116 117 _ _ (decide (m.c.nd ≤ m.hd % m.c.s)) _ (H1.out.below (bel_drewN _ (Below.refl _ _))) enRoom2 enGap2 (PutTo w O q (m.gapped x) bv) ?_ ?_ ?_).mono ?_
      · intro w2 b2
        exact pRoom2_any pb w2 ((H1.out.below (bel_drewN _ (Below.refl _ _))).below b2) ((P1.out.drewN _).below b2 (by have := P1.out.lt; simpa using this))
      · intro hf w2 b2
        have hf2 : m.c.nd ≤ m.hd % m.c.s := of_decide_eq_true hf
        rw [HG.out, if_pos hf2]
        refine (pGap2_any x (m.c.s - x % m.c.s) pb tb w.heap.size w2 ((H1.out.below (bel_drewN _ (Below.refl _ _))).below b2) ((P1.out.drewN _).below b2 (by have := P1.out.lt; simpa using this)) ((T1.out.drewN _).below b2 (by have := T1.out.lt; simpa using this)) ((G1.out.drewN _).below b2 (by have := G1.out.lt; simpa using this)) (by omega) (by omega)).mono ?_
        rintro e w5 ⟨rfl, hto⟩
        exact ⟨rfl, hto.from ((K1.out.drewN _).trans (Below.keeps b2)) (fun i hi => .inl hi)⟩
      · intro hf w' t' v1 m' c1 c2 k
        have hf2 : ¬ m.c.nd ≤ m.hd % m.c.s := of_decide_eq_false hf
        have zk := k.size
        simp at zk
        rw [HG.out, if_neg hf2]
        refine ⟨PutAt.made (by nofun) m' ⟨v1, _, _, c1.mono (fun i hi => .inr ⟨by simp at hi; omega, hi.2⟩), c2.mono (fun i hi => .inr ⟨by simp at hi; omega, hi.2⟩), Clo.mk1 ?_ (.inl op), Clo.mk3 ?_ (.inl op) ?_ (.inl ot) ?_ (.inr ⟨Nat.le_refl _, by omega⟩)⟩, (K1.out.drewN _).trans k⟩
        · exact (P1.out.drewN nq).keep k (fun e => H.out.nq (e ▸ op))
        · exact (P1.out.drewN nq).keep k (fun e => H.out.nq (e ▸ op))
        · exact (T1.out.drewN nq).keep k (fun e => H.out.nq (e ▸ ot))
        · exact (G1.out.drewN nq).keep k (by show ¬ w.heap.size = q; omega)
      · rintro e w5 ⟨rfl, hQ⟩
        go_wp2
        go_end0
        exact ⟨rfl, hQ⟩
set_option maxHeartbeats 2000000 in
/-- The tail is known. -/
theorem pTailK_any {O : Nat → Prop} {q : Nat} {m : PutM} {bv : Value} (x : Int) (pb : Nat) (w : World) (h : PutW w O q m bv) (hp : Blk w pb [ptr q]) (op : O pb) :
    Calls Try.prog 110 #[.int .u64 x, ptr pb] w fun e w' => e = .returned (.tuple #[]) ∧ PutTo w O q (m.tailed x) bv w' := by
  have hlt := h.lt
  have l0 := hp.lt
  have nq := h.nq
  have p0 := hp.cell 0
  simp only [List.getElem?_cons_zero, ptr] at p0
  have T1 := Lib.hid (Blk.made w #[.int .u64 x] 45)
  have H1 := Lib.hid (h.alloc (.cells #[.int .u64 x] 45))
  have P1 := Lib.hid (hp.alloc (.cells #[.int .u64 x] 45))
  have K1 := Lib.hid ((Keep.refl (· = q) w).alloc (.cells #[.int .u64 x] 45))
  unfold ptr
  clear h hp
  go_enter Try.func110, Try.ntmps110
  go_wp2_with fail
  refine (pLook_any 111 113 _ _ (m.fit x) _ H1.out enRoom enGap (PutTo w O q (m.tailed x) bv) ?_ ?_ ?_).mono ?_
  · intro w2 b2
    exact pRoom_any x pb w.heap.size w2 (H1.out.below b2) (P1.out.below b2 (by have := P1.out.lt; simpa using this)) (T1.out.below b2 (by simp))
  · intro hf w2 b2
    have z2 := b2.size
    simp at z2
    unfold PutM.tailed
    rw [hf, if_pos rfl]
    refine (pGap_any (O := fun i => O i ∨ i = w.heap.size) x pb w.heap.size w2 ((H1.out.below b2).mono (fun i hi => .inl hi) (fun hi => by rcases hi with hi | hi; exact nq hi; omega)) (P1.out.below b2 (by have := P1.out.lt; simpa using this)) (T1.out.below b2 (by simp)) (.inl op) (.inr rfl)).mono ?_
    rintro e w5 ⟨rfl, hto⟩
    exact ⟨rfl, hto.from (K1.out.trans (Below.keeps b2)) (fun i hi => hi.imp id (fun e => ⟨by omega, by omega⟩))⟩
  · intro hf w' t' v1 m' c1 c2 k
    have zk := k.size
    simp at zk
    unfold PutM.tailed
    rw [hf, if_neg (by nofun)]
    refine ⟨PutAt.made (by nofun) m' ⟨v1, _, _, c1.mono (fun i hi => .inr ⟨by simp at hi; omega, hi.2⟩), c2.mono (fun i hi => .inr ⟨by simp at hi; omega, hi.2⟩), Clo.mk2 ?_ (.inl op) ?_ (.inr ⟨Nat.le_refl _, by omega⟩), Clo.mk2 ?_ (.inl op) ?_ (.inr ⟨Nat.le_refl _, by omega⟩)⟩, K1.out.trans k⟩
    · exact P1.out.keep k (fun e => nq (e ▸ op))
    · exact T1.out.keep k (by show ¬ w.heap.size = q; omega)
    · exact P1.out.keep k (fun e => nq (e ▸ op))
    · exact T1.out.keep k (by show ¬ w.heap.size = q; omega)
  · rintro e w5 ⟨rfl, hQ⟩
    go_wp2
    go_end0
    exact ⟨rfl, hQ⟩
set_option maxHeartbeats 2000000 in
/-- The head's copy is known. -/
theorem pNewK_any {O : Nat → Prop} {q : Nat} {m : PutM} {bv : Value} (v : Int) (pb : Nat) (w : World) (h : PutW w O q m bv) (hp : Blk w pb [ptr q]) (op : O pb) :
    Calls Try.prog 70 #[.int .u64 v, ptr pb] w fun e w' => e = .returned (.tuple #[]) ∧ PutTo w O q { m with hd := v, pc := .tl } bv w' := by
  have H := Lib.hid h
  have hlt := h.lt
  have l0 := hp.lt
  have nq : pb ≠ q := fun e => h.nq (e ▸ op)
  have p0 := hp.cell 0
  simp only [List.getElem?_cons_zero, ptr] at p0
  have c12 := Blk.cell h.mch 12
  have f12 := Blk.frozen h.mch 12
  unfold ptr
  clear h hp
  go_enter Try.func70, Try.ntmps70
  go_wp2_with fail
  refine (pTail_any _ (H.out.put (m' := { m with hd := v }) 12 (.int .u64 v) rfl rfl)).mono ?_
  rintro e w5 ⟨rfl, hto⟩
  go_wp2
  go_end0
  exact ⟨rfl, hto.after (Keep.setCell (M := (· = q)) (Keep.refl _ w) (p := ⟨q, 12, none⟩) (.inl rfl) _)⟩
set_option maxHeartbeats 2000000 in
/-- The record's header is written, in parts. -/
theorem pWrite_any {O : Nat → Prop} {q : Nat} {m : PutM} {bv : Value} (a : Int) (w : World) (h : PutW w O q m bv) :
    Calls Try.prog 145 #[.pointer (some ⟨q, 0, none⟩), .int .i64 a] w fun e w' => e = .returned (.tuple #[]) ∧ PutTo w O q { m with pc := .wh a } bv w' := by
  have hlt := h.lt
  have H := Lib.hid h
  obtain ⟨b0, b1, b2, b3, b4, b5, b6, b7, b8⟩ := h.bd
  obtain ⟨_, _, c9, c10, _⟩ := put_cells h.mch
  have hr := h.rd
  obtain ⟨s0, sl, sc, rfl⟩ : ∃ s0 sl sc, bv = .slice s0 sl sc := by
    rcases hr with ⟨rfl, _⟩ | ⟨_, _, rfl, _⟩ | ⟨_, _, _, rfl, _⟩
    · exact ⟨_, _, _, rfl⟩
    · exact ⟨_, _, _, rfl⟩
    · exact ⟨_, _, _, rfl⟩
  have hsl := rd_len hr
  have hn : m.c.n = 8 + (sl : Int) := by unfold PutC.n; omega
  have HN := Lib.hid hn
  have W1 : IntKind.i64.wrap (8 + (sl : Int)) = 8 + (sl : Int) := IntWalk.i64_in _ ⟨by omega, by omega⟩
  have W2 : IntKind.i32.wrap (8 + (sl : Int)) = 8 + (sl : Int) := IntWalk.i32_in _ ⟨by omega, by omega⟩
  have W3 : IntKind.i32.wrap (-(8 + (sl : Int))) = -(8 + (sl : Int)) := IntWalk.i32_in _ ⟨by omega, by omega⟩
  obtain ⟨n, hnn⟩ : ∃ n, n = 8 + (sl : Int) := ⟨_, rfl⟩
  rw [← hnn] at W1 W2 W3 HN
  have HNN := Lib.hid hnn.symm
  have hnn' := hnn.symm
  clear h b0 b1 hr hsl hnn hn
  go_enter Try.func145, Try.ntmps145
  go_upto_region 2 with fail
  obtain ⟨w3, hw3, x0, x1, x2, hs3, bb3⟩ := pbox3 w (.pointer (some ⟨q, 0, none⟩)) (.int .i64 a) (.int .i32 n) 68 3 21
  rw [← hw3]
  have X0 := Lib.hid x0
  have X1 := Lib.hid x1
  have X2 := Lib.hid x2
  have B3 := Lib.hid bb3
  have p0 := x0.cell 0
  have p1 := x1.cell 0
  have p2 := x2.cell 0
  have d9 := (bb3.cell (p := ⟨q, 9, none⟩) hlt).trans c9
  simp only [List.getElem?_cons_zero] at p0 p1 p2
  clear hw3 x0 x1 x2 bb3 c9 c10
  have H3 := Lib.hid (H.out.below B3.out)
  go_region_held3 (fun w' => w'.cell? ⟨w.heap.size, 0, none⟩ = some (.pointer (some ⟨q, 0, none⟩)) ∧ w'.cell? ⟨w.heap.size + 1, 0, none⟩ = some (.int .i64 a) ∧ w'.cell? ⟨w.heap.size + 1 + 1, 0, none⟩ = some (.int .i32 n) ∧ w'.cell? ⟨q, 9, none⟩ = some (.int .i32 m.c.typ)) (first | go_keep | trivial)
    (first
      | (go_at_call 146; refine (record_any (-n) m.c.typ _).mono ?_; rintro e w2 ⟨rfl, rfl⟩)
      | (go_at_call 142; refine (cStore_any q _ _ _ a 8 _ _ _ _ (H3.out.below (by go_grown)).mch).mono ?_; rintro e w5 ⟨rfl, t5, m5, l5, k5⟩; have hd0 := fun o => k5.cell (b := w.heap.size) o (by simp; omega) (by show ¬ w.heap.size = q; omega); have hd1 := fun o => k5.cell (b := w.heap.size + 1) o (by simp; omega) (by show ¬ w.heap.size + 1 = q; omega); have hd2 := fun o => k5.cell (b := w.heap.size + 1 + 1) o (by simp; omega) (by show ¬ w.heap.size + 1 + 1 = q; omega); have hd3 := (put_cells m5).2.2.1))
  all_goals
    clear hd0 hd1 hd2 hd3
    have z5 := k5.size
    simp at z5
    go_wp2
    go_end0
    refine ⟨rfl, PutAt.made (by nofun) (by rw [← HN.out] at m5; exact m5) ⟨_, l5.mono (fun i hi => .inr ⟨by have := hi.1; simp at this; omega, hi.2⟩), Clo.mk3 ?_ (.inr ⟨by omega, by omega⟩) ?_ (.inr ⟨by omega, by omega⟩) ?_ (.inr ⟨by omega, by omega⟩)⟩, ((Below.keeps B3.out).drew).trans k5⟩
    · exact (X0.out.drew).keep k5 (by show ¬ w.heap.size = q; omega)
    · exact (X1.out.drew).keep k5 (by show ¬ w.heap.size + 1 = q; omega)
    · rw [HN.out]
      exact (X2.out.drew).keep k5 (by show ¬ w.heap.size + 1 + 1 = q; omega)
set_option maxHeartbeats 2000000 in
/-- The claim told. -/
theorem pClaimK_any {O : Nat → Prop} {q : Nat} {m : PutM} {bv : Value} (d : Bool) (t pad : Int) (pb tb gb : Nat) (w : World) (h : PutW w O q m bv) (hp : Blk w pb [ptr q]) (ht : Blk w tb [.int .u64 t]) (hg : Blk w gb [.int .i64 pad]) (op : O pb) (ot : O tb) (og : O gb) (hpad : pad = 0 ∨ pad = m.c.s - t % m.c.s) :
    Calls Try.prog 144 #[.bool d, ptr pb, ptr tb, ptr gb] w fun e w' => e = .returned (.tuple #[]) ∧ PutTo w O q (if d then m.claimed t pad else { m with pc := .tl }) bv w' := by
  have H := Lib.hid h
  obtain ⟨b0, b1, b2, b3, b4, b5, b6, b7, b8⟩ := h.bd
  obtain ⟨c7, c8, c9, c10, c11, c12, c13, c14, c15⟩ := put_cells h.mch
  have f13 := Blk.frozen h.mch 13
  have f14 := Blk.frozen h.mch 14
  have hlt := h.lt
  have l0 := hp.lt
  have l1 := ht.lt
  have l2 := hg.lt
  have n0 : pb ≠ q := fun e => h.nq (e ▸ op)
  have n1 : tb ≠ q := fun e => h.nq (e ▸ ot)
  have n2 : gb ≠ q := fun e => h.nq (e ▸ og)
  have P0 := Lib.hid hp
  have T0 := Lib.hid ht
  have G0 := Lib.hid hg
  have p0 := hp.cell 0
  have t0 := ht.cell 0
  have g0 := hg.cell 0
  simp only [List.getElem?_cons_zero, ptr] at p0 t0 g0
  have m1 := Int.emod_nonneg t (show m.c.s ≠ 0 by omega)
  have m2 := Int.emod_lt_of_pos t (show 0 < m.c.s by omega)
  have W1 : IntKind.i64.wrap (m.c.b + t % m.c.s) = m.c.b + t % m.c.s := IntWalk.i64_in _ ⟨by omega, by omega⟩
  have W2 : IntKind.i32.wrap pad = pad := IntWalk.i32_in _ ⟨by omega, by omega⟩
  unfold ptr
  clear h hp ht hg b0 b1
  cases d with
  | false =>
    simp only [Bool.false_eq_true, if_false]
    go_enter Try.func144, Try.ntmps144
    go_wp2_with fail
    refine (pTail_any _ H.out).mono ?_
    rintro e w5 ⟨rfl, hto⟩
    go_wp2
    exact bodyPost_ret (v := .tuple #[]) (results_none rfl _ _ _) rfl ⟨rfl, hto⟩
  | true =>
    simp only [if_true]
    go_enter Try.func144, Try.ntmps144
    go_upto_region 2 with fail
    go_region
    have HV : wrap64 (wrap64 t + pad) = s64 (s64 t + pad) := by unfold wrap64 s64; rfl
    obtain ⟨w1, hw1⟩ : ∃ w1, w1 = ((w.setCell ⟨q, 13, none⟩ (.int .i64 (wrap64 (wrap64 t + pad)))).setCell ⟨q, 14, none⟩ (.bool true)).drew := ⟨_, rfl⟩
    rw [← hw1]
    have k1 : Keep (· = q) w w1 := by
      rw [hw1]
      exact (Keep.setCell (M := (· = q)) (Keep.setCell (M := (· = q)) (Keep.refl _ w) (p := ⟨q, 13, none⟩) (.inl rfl) _) (p := ⟨q, 14, none⟩) (.inl rfl) _).drew
    have h1 : PutW w1 O q { m with pos := s64 (s64 t + pad), cl := true } bv := by
      rw [hw1, HV]
      exact ((H.out.put (m' := { m with pos := s64 (s64 t + pad) }) 13 _ rfl rfl).put (m' := { m with pos := s64 (s64 t + pad), cl := true }) 14 _ rfl rfl).drew
    have H1 := Lib.hid h1
    have K1 := Lib.hid k1
    have d0 := (k1.cell (b := pb) 0 l0 n0).trans p0
    have d1 := (k1.cell (b := tb) 0 l1 n1).trans t0
    have d2 := (k1.cell (b := gb) 0 l2 n2).trans g0
    have P1 := Lib.hid (P0.out.keep k1 n0)
    have y0 := P1.out.lt
    obtain ⟨e7, _⟩ := put_cells h1.mch
    have hltq := h1.lt
    dsimp only at e7
    clear hw1 k1 h1 p0 t0 g0 c7 c8 c9 c10 c11 c12 c13 c14 c15 f13 f14 HV
    go_upto_region 3 with fail
    go_cut [5] from 20 to 28 (fun a wx => a = .int .i64 (m.c.b + t % m.c.s) ∧ ∃ n, wx = w1.drewN n)
    case first =>
      go_quiet ((go_at_call 114; exact quietR (pPlace_any (m := { m with pos := s64 (s64 t + pad), cl := true }) t _ (H1.out.below (bel_drewN _ (Below.refl _ _))))))
      go_wp2_with fail
      go_meet
      exact ⟨rfl, _, rfl⟩
    case rest =>
      obtain ⟨rfl, nn, rfl⟩ := hcut
      by_cases hp0 : pad = 0
      · have hC : m.claimed t pad = { ({ m with pos := s64 (s64 t + pad), cl := true } : PutM) with pc := .wh (m.c.b + t % m.c.s) } := by unfold PutM.claimed; rw [if_pos hp0]
        have HC := Lib.hid hC
        clear hC
        go_wp2_with fail
        refine (pWrite_any (m := { m with pos := s64 (s64 t + pad), cl := true }) (m.c.b + t % m.c.s) _ (H1.out.below (bel_drewN _ (Below.refl _ _)))).mono ?_
        rintro e w5 ⟨rfl, hto⟩
        go_wp2
        refine bodyPost_ret (v := .tuple #[]) (results_none rfl _ _ _) rfl ⟨rfl, ?_⟩
        rw [HC.out]
        exact hto.after (K1.out.drewN _)
      · have hC : m.claimed t pad = { ({ m with pos := s64 (s64 t + pad), cl := true } : PutM) with pc := .pd t } := by unfold PutM.claimed; rw [if_neg hp0]
        have HC := Lib.hid hC
        clear hC
        have hpp : pad = m.c.s - t % m.c.s := by omega
        have HP := Lib.hid hpp
        clear hpp hpad
        go_upto_region 6 with fail
        go_region_held3 (fun w' => w'.cell? ⟨pb, 0, none⟩ = some (.pointer (some ⟨q, 0, none⟩)) ∧ w'.cell? ⟨gb, 0, none⟩ = some (.int .i64 pad)) (first | go_keep | trivial)
          (first
            | (go_at_call 146; refine (record_any pad (-1) _).mono ?_; rintro e w2 ⟨rfl, rfl⟩)
            | (go_at_call 142; refine (cStore_any q _ _ _ (m.c.b + t % m.c.s) 8 _ _ _ _ (H1.out.below (bel_drewN _ (Below.refl _ _))).mch).mono ?_; rintro e w5 ⟨rfl, t5, m5, l5, k5⟩; have hd0 := fun o => k5.cell (b := pb) o (by simpa using y0) n0; have hd1 := fun o => k5.cell (b := gb) o (by have := K1.out.size; simp; omega) n2))
        all_goals
          clear hd0 hd1
          have z5 := k5.size
          simp at z5
          go_wp2
          go_end0
          refine ⟨rfl, ?_⟩
          rw [HC.out]
          refine ⟨PutAt.made (by nofun) (by rw [congrArg (recS · (-1)) HP.out] at m5; exact m5) ⟨_, l5.mono (fun i hi => .inr ⟨by have := hi.1; have h9 := K1.out.size; try simp at this; omega, hi.2⟩), Clo.mk1 ?_ (.inl op)⟩, ((K1.out.drewN _).drew).trans k5⟩
          exact ((P1.out.drewN _).drew).keep k5 n0
set_option maxHeartbeats 2000000 in
/-- The padding is written. -/
theorem pClaimP_any {O : Nat → Prop} {q : Nat} {m : PutM} {bv : Value} (pb : Nat) (w : World) (h : PutW w O q m bv) (hp : Blk w pb [ptr q]) (n0 : pb ≠ q) :
    Calls Try.prog 147 #[ptr pb] w fun e w' => e = .returned (.tuple #[]) ∧ PutTo w O q { m with pc := .wh m.c.b } bv w' := by
  have H := Lib.hid h
  have hlt := h.lt
  have l0 := hp.lt
  obtain ⟨c7, _⟩ := put_cells h.mch
  have p0 := hp.cell 0
  simp only [List.getElem?_cons_zero, ptr] at p0
  unfold ptr
  clear h hp
  go_enter Try.func147, Try.ntmps147
  go_wp2_with fail
  go_region_held3 (fun w' => w'.cell? ⟨pb, 0, none⟩ = some (.pointer (some ⟨q, 0, none⟩)) ∧ w'.cell? ⟨q, 7, none⟩ = some (.int .i64 m.c.b)) (first | go_keep | trivial)
    (first
      | (go_at_call 145; refine (pWrite_any m.c.b _ H.out.drew).mono ?_; rintro e w5 ⟨rfl, hto⟩; have hd0 := fun o => hto.2.cell (b := pb) o (by simpa using l0) n0; obtain ⟨cm, tm, hmm⟩ := hto.1.mch; have hd7 := (put_cells hmm).1))
  all_goals
    clear hd0 hd7 hmm
    go_wp2
    go_end0
    exact ⟨rfl, hto.after (Keep.refl _ w).drew⟩
set_option maxHeartbeats 2000000 in
/-- The bytes are written: the header is written anew. -/
theorem pWrite1_any {O : Nat → Prop} {q : Nat} {m : PutM} {bv : Value} (a : Int) (pb ab nb : Nat) (w : World) (h : PutW w O q m bv) (hp : Blk w pb [ptr q]) (ha : Blk w ab [.int .i64 a]) (hn : Blk w nb [.int .i32 m.c.n]) (op : O pb) (oa : O ab) (on : O nb) :
    Calls Try.prog 158 #[ptr pb, ptr ab, ptr nb] w fun e w' => e = .returned (.tuple #[]) ∧ PutTo w O q { m with pc := .fi a } bv w' := by
  have H := Lib.hid h
  obtain ⟨b0, b1, b2, b3, b4, b5, b6, b7, b8⟩ := h.bd
  have hlt := h.lt
  have l0 := hp.lt
  have l1 := ha.lt
  have l2 := hn.lt
  have n0 : pb ≠ q := fun e => h.nq (e ▸ op)
  have n1 : ab ≠ q := fun e => h.nq (e ▸ oa)
  have n2 : nb ≠ q := fun e => h.nq (e ▸ on)
  have P0 := Lib.hid hp
  have p0 := hp.cell 0
  have t0 := ha.cell 0
  have g0 := hn.cell 0
  simp only [List.getElem?_cons_zero, ptr] at p0 t0 g0
  have hN : 8 ≤ m.c.n ∧ m.c.n ≤ 1040 := by unfold PutC.n; omega
  have W1 : IntKind.u64.wrap m.c.n = m.c.n := IntWalk.u64_in _ ⟨by omega, by omega⟩
  unfold ptr
  clear h hp ha hn b0 b1
  go_enter Try.func158, Try.ntmps158
  go_wp2_with fail
  go_region_held3 (fun w' => w'.cell? ⟨pb, 0, none⟩ = some (.pointer (some ⟨q, 0, none⟩)) ∧ w'.cell? ⟨ab, 0, none⟩ = some (.int .i64 a) ∧ w'.cell? ⟨nb, 0, none⟩ = some (.int .i32 m.c.n)) (first | go_keep | trivial)
    (first
      | (go_at_call 142; refine (cStore_any q _ _ _ a 4 _ _ _ _ H.out.drew.mch).mono ?_; rintro e w5 ⟨rfl, t5, m5, l5, k5⟩; have hd0 := fun o => k5.cell (b := pb) o (by simpa using l0) n0; have hd1 := fun o => k5.cell (b := ab) o (by simpa using l1) n1; have hd2 := fun o => k5.cell (b := nb) o (by simpa using l2) n2))
  all_goals
    clear hd0 hd1 hd2
    have z5 := k5.size
    simp at z5
    go_wp2
    go_end0
    refine ⟨rfl, PutAt.made (by nofun) m5 ⟨_, l5.mono (fun i hi => .inr ⟨by have := hi.1; try simp at this; omega, hi.2⟩), Clo.mk1 ?_ (.inl op)⟩, ((Keep.refl _ w).drew).trans k5⟩
    exact (P0.out.drew).keep k5 n0
set_option maxHeartbeats 1000000 in
/-- The record is whole. -/
theorem pWrite2_any {O : Nat → Prop} {q : Nat} {m : PutM} {bv : Value} (pb : Nat) (w : World) (h : PutW w O q m bv) (hp : Blk w pb [ptr q]) :
    Calls Try.prog 159 #[ptr pb] w fun e w' => e = .returned (.tuple #[]) ∧ PutTo w O q { m with pc := .done, e := 0 } bv w' := by
  have H := Lib.hid h
  have hlt := h.lt
  have l0 := hp.lt
  have p0 := hp.cell 0
  simp only [List.getElem?_cons_zero, ptr] at p0
  unfold ptr
  clear h hp
  go_enter Try.func159, Try.ntmps159
  go_wp2_with fail
  refine (pStop_any 0 _ H.out).mono ?_
  rintro e w5 ⟨rfl, h5, k5⟩
  go_wp2
  go_end0
  exact ⟨rfl, PutAt.made (by nofun) h5.mch rfl, k5⟩
set_option maxHeartbeats 2000000 in
/-- The header is written: the bytes, in parts. -/
theorem pWriteK_any {O : Nat → Prop} {q : Nat} {m : PutM} {bv : Value} (a : Int) (pb ab nb : Nat) (w : World) (h : PutW w O q m bv) (hp : Blk w pb [ptr q]) (ha : Blk w ab [.int .i64 a]) (hn : Blk w nb [.int .i32 m.c.n]) (op : O pb) (oa : O ab) (on : O nb) (ha0 : 0 ≤ a) (ha1 : a ≤ 131072) :
    Calls Try.prog 157 #[ptr pb, ptr ab, ptr nb] w fun e w' => e = .returned (.tuple #[]) ∧ PutTo w O q (({ m with pc := .wh a } : PutM).step anZ) bv w' := by
  have H := Lib.hid h
  obtain ⟨b0, b1, b2, b3, b4, b5, b6, b7, b8⟩ := h.bd
  have hlt := h.lt
  have l0 := hp.lt
  have l1 := ha.lt
  have l2 := hn.lt
  have nq := h.nq
  have n0 : pb ≠ q := fun e => h.nq (e ▸ op)
  have n1 : ab ≠ q := fun e => h.nq (e ▸ oa)
  have n2 : nb ≠ q := fun e => h.nq (e ▸ on)
  have P0 := Lib.hid hp
  have A0 := Lib.hid ha
  have N0 := Lib.hid hn
  have p0 := hp.cell 0
  have t0 := ha.cell 0
  have c10 := (put_cells h.mch).2.2.2.1
  simp only [List.getElem?_cons_zero, ptr] at p0 t0
  have W1 : IntKind.i64.wrap (a + 8) = a + 8 := IntWalk.i64_in _ ⟨by omega, by omega⟩
  have hst : ({ m with pc := .wh a } : PutM).step anZ = if m.c.d.length = 0 then { m with pc := .fi a } else { m with pc := .wb a (a + 8) m.c.d } := rfl
  have HST := Lib.hid hst
  have hrd := h.rd
  have hob := h.ob
  unfold ptr
  clear h hp ha hn b0 b1 hst
  by_cases hz : m.c.d.length = 0
  · obtain ⟨s0, sc, rfl⟩ : ∃ s0 sc, bv = .slice s0 0 sc := by
      rcases hrd with ⟨rfl, _⟩ | ⟨_, _, rfl, _⟩ | ⟨_, _, _, rfl, _⟩
      · exact ⟨_, _, rfl⟩
      · exact ⟨_, _, rfl⟩
      · rw [hz]
        exact ⟨_, _, rfl⟩
    have hz' := Lib.hid hz
    clear hz hrd
    go_enter Try.func157, Try.ntmps157
    go_wp2_with fail
    go_region_held3 (fun w' => w'.cell? ⟨pb, 0, none⟩ = some (.pointer (some ⟨q, 0, none⟩)) ∧ w'.cell? ⟨ab, 0, none⟩ = some (.int .i64 a) ∧ w'.cell? ⟨q, 10, none⟩ = some (.slice s0 0 sc)) (first | go_keep | trivial)
      (first
        | (go_at_call 96; refine (cIn_end q (a + 8) s0 sc 158 _ _ (enWrite1 _) (PutTo w O q { m with pc := .fi a } (.slice s0 0 sc)) (fun w2 b2 => (pWrite1_any a pb ab nb w2 ((H.out.drew).below b2) ((P0.out.drew).below b2 (by simpa using l0)) ((A0.out.drew).below b2 (by simpa using l1)) ((N0.out.drew).below b2 (by simpa using l2)) op oa on).mono (fun e w' ⟨h1, h2⟩ => ⟨h1, h2.from (((Keep.refl _ w).drew).trans (Below.keeps b2)) (fun i hi => .inl hi)⟩))).mono ?_; rintro e w5 ⟨rfl, hto⟩; have hd0 := fun o => hto.2.cell (b := pb) o (by simpa using l0) n0; have hd1 := fun o => hto.2.cell (b := ab) o (by simpa using l1) n1; obtain ⟨cm, tm, hmm⟩ := hto.1.mch; have hd7 := (put_cells hmm).2.2.2.1))
    all_goals
      clear hd0 hd1 hd7 hmm
      go_wp2
      go_end0
      refine ⟨rfl, ?_⟩
      rw [HST.out, if_pos hz'.out]
      exact hto
  · rcases hrd with ⟨_, e⟩ | ⟨_, _, _, e, _⟩ | ⟨b, off, cap, rfl, hcap, hcm, hcell⟩
    · rw [e] at hz; exact absurd rfl hz
    · rw [e] at hz; exact absurd rfl hz
    have hbo : O b := hob b rfl
    have hbq : b ≠ q := fun e => nq (e ▸ hbo)
    have hz' := Lib.hid hz
    have HC := Lib.hid hcell
    have lb := World.block_lt_of_cell? w _ (hcell 0 (by omega))
    simp only at lb
    clear hz hcell
    go_enter Try.func157, Try.ntmps157
    go_wp2_with fail
    go_region_held3 (fun w' => w'.cell? ⟨pb, 0, none⟩ = some (.pointer (some ⟨q, 0, none⟩)) ∧ w'.cell? ⟨ab, 0, none⟩ = some (.int .i64 a) ∧ w'.cell? ⟨q, 10, none⟩ = some (.slice (some ⟨b, off, none⟩) m.c.d.length cap)) (first | go_keep | trivial)
      (first
        | (go_at_call 96; refine (cIn_st q _ _ _ (a + 8) b off cap m.c.d 158 _ _ O H.out.drew.mch hz'.out (by omega) hcap hcm hbo hbq (fun i hi => HC.out i hi)).mono ?_; rintro e w5 ⟨rfl, hin, k5⟩; have hd0 := fun o => k5.cell (b := pb) o (by simpa using l0) n0; have hd1 := fun o => k5.cell (b := ab) o (by simpa using l1) n1; have hd7 : w5.cell? ⟨q, 10, none⟩ = some (.slice (some ⟨b, off, none⟩) m.c.d.length cap) := by obtain ⟨_, _, _, _, _, hmm, _⟩ := hin; exact (put_cells hmm).2.2.2.1))
    all_goals
      clear hd0 hd1 hd7
      have z5 := k5.size
      simp at z5
      go_wp2
      go_end0
      refine ⟨rfl, ?_⟩
      rw [HST.out, if_neg hz'.out]
      refine ⟨⟨_, hin.mono (fun i hi => hi.imp id (fun h9 => ⟨by have := h9.1; try simp at this; omega, h9.2⟩)), Clo.mk3 ?_ (.inl op) ?_ (.inl oa) ?_ (.inl on)⟩, ((Keep.refl _ w).drew).trans k5⟩
      · exact (P0.out.drew).keep k5 n0
      · exact (A0.out.drew).keep k5 n1
      · exact (N0.out.drew).keep k5 n2
end Go.Proofs.Ytpicplkbblmbeaa
