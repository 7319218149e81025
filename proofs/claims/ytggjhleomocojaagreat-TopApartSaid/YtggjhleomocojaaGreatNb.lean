/- A machine that sends, in memory: what its closures do, Take, Next, Result, New. Conditions: as each says. -/
import Derived.Test.YtggjhleomocojaaGreatUa
namespace Go.Proofs.YtggjhleomocojaaGreat
set_option maxRecDepth 100000
open Go.RowKit
set_option linter.unusedVariables false
set_option linter.unusedSimpArgs false
variable {O : Nat → Prop} {q : Nat} {m : SenM} {bv : Value}
set_option maxHeartbeats 1000000 in
theorem sWrite3_any (pb : Nat) (w : World) (h : SenW w O q m bv) (hp : Blk w pb [ptr q]) :
  Calls Tryz.prog 112 #[ptr pb] w fun e w' => e = .returned (.tuple #[]) ∧ SenTo w O q { m with pc := .done, e := 0 } bv w' := by
 have H := Lib.hid h
 have hlt := h.lt
 have l0 := hp.lt
 have p0 := hp.cell 0
 have c12 := Blk.cell h.mch 12
 have f12 := Blk.frozen h.mch 12
 simp only [List.getElem?_cons_zero, ptr, SenM.rest, Acc.cs, accZ, List.cons_append, List.nil_append, List.getElem?_cons_succ] at p0 c12
 unfold ptr
 clear h hp
 go_enter Tryz.func112, Tryz.ntmps112
 go_wp2
 go_end0
 exact ⟨rfl, SenAt.made (by nofun) (H.out.put (m' := { m with e := 0 }) 12 (.int .i64 0) rfl rfl).mch rfl, Keep.setCell (M := (· = q)) (Keep.refl _ w) (p := ⟨q, 12, none⟩) (.inl rfl) _⟩
set_option maxHeartbeats 2000000 in
theorem sWrite2_any (pb nb : Nat) (w : World) (h : SenW w O q m bv) (hp : Blk w pb [ptr q]) (hn : Blk w nb [.int .u64 m.c.nd]) (op : O pb) (on : O nb) :
  Calls Tryz.prog 111 #[ptr pb, ptr nb] w fun e w' => e = .returned (.tuple #[]) ∧ SenTo w O q { m with pc := .ta } bv w' := by
 have H := Lib.hid h
 obtain ⟨b0, b1, b2, b3, b4', b5, b6, b7, b8⟩ := h.bd
 have hlt := h.lt
 have l0 := hp.lt
 have l2 := hn.lt
 have n0 : pb ≠ q := fun e => h.nq (e ▸ op)
 have n2 : nb ≠ q := fun e => h.nq (e ▸ on)
 have P0 := Lib.hid hp
 have p0 := hp.cell 0
 have g0 := hn.cell 0
 have c11 := (sen_cells h.mch).2.2.2.2.1
 simp only [List.getElem?_cons_zero, ptr] at p0 g0
 have W1 : IntKind.i64.wrap (m.c.b + m.c.s + 8) = m.c.b + m.c.s + 8 := IntWalk.i64_in _ ⟨by omega, by omega⟩
 unfold ptr
 clear h hp hn b0 b1
 go_enter Tryz.func111, Tryz.ntmps111
 go_wp2_with fail
 go_region_held3 (fun w' => w'.cell? ⟨pb, 0, none⟩ = some (.pointer (some ⟨q, 0, none⟩)) ∧ w'.cell? ⟨nb, 0, none⟩ = some (.int .u64 m.c.nd) ∧ w'.cell? ⟨q, 11, none⟩ = some (.int .u64 m.tl)) (first | go_keep | trivial)
  (first
   | (go_at_call 37; refine (sEnd_any _ H.out.drew).mono ?_; rintro e w4 ⟨rfl, b4⟩; have hc0 := fun o => b4.cell (p := ⟨pb, o, none⟩) (by simpa using l0); have hc1 := fun o => b4.cell (p := ⟨nb, o, none⟩) (by simpa using l2); have hc2 := fun o => b4.cell (p := ⟨q, o, none⟩) (by simpa using hlt))
   | (go_at_call 74; refine (cStore_any q _ _ _ (m.c.b + m.c.s + 8) 8 _ _ _ _ (H.out.drew.below b4).mch).mono ?_; rintro e w5 ⟨rfl, t5, m5, l5, k5⟩; have hd0 := fun o => k5.cell (b := pb) o (by have := b4.size; simp at this; omega) n0; have hd1 := fun o => k5.cell (b := nb) o (by have := b4.size; simp at this; omega) n2; have hd2 := (sen_cells m5).2.2.2.2.1))
 all_goals
  have z4 := b4.size
  have z5 := k5.size
  simp at z4
  clear hc0 hc1 hc2 hd0 hd1 hd2
  go_wp2
  go_end0
  refine ⟨rfl, SenAt.made (by nofun) m5 ⟨_, l5.mono (fun i hi => .inr ⟨by have h9 := hi.1; (try simp at h9); omega, hi.2⟩), Clo.mk1 ?_ (.inl op)⟩, ((Keep.refl _ w).drew.trans (Below.keeps b4)).trans k5⟩
  exact ((P0.out.drew).below b4 (by simpa using l0)).keep k5 n0
set_option maxHeartbeats 2000000 in
theorem sWrite1_any (pb nb : Nat) (w : World) (h : SenW w O q m bv) (hp : Blk w pb [ptr q]) (hn : Blk w nb [.int .u64 m.c.nd]) (op : O pb) (on : O nb) :
  Calls Tryz.prog 110 #[ptr pb, ptr nb] w fun e w' => e = .returned (.tuple #[]) ∧ SenTo w O q { m with pc := .la } bv w' := by
 have H := Lib.hid h
 obtain ⟨b0, b1, b2, b3, b4', b5, b6, b7, b8⟩ := h.bd
 have hlt := h.lt
 have l0 := hp.lt
 have l2 := hn.lt
 have n0 : pb ≠ q := fun e => h.nq (e ▸ op)
 have n2 : nb ≠ q := fun e => h.nq (e ▸ on)
 have P0 := Lib.hid hp
 have N0 := Lib.hid hn
 have p0 := hp.cell 0
 have c11 := (sen_cells h.mch).2.2.2.2.1
 simp only [List.getElem?_cons_zero, ptr] at p0
 have W1 : IntKind.i64.wrap (m.c.b + m.c.s + 16) = m.c.b + m.c.s + 16 := IntWalk.i64_in _ ⟨by omega, by omega⟩
 unfold ptr
 clear h hp hn b0 b1
 go_enter Tryz.func110, Tryz.ntmps110
 go_wp2_with fail
 go_region_held3 (fun w' => w'.cell? ⟨pb, 0, none⟩ = some (.pointer (some ⟨q, 0, none⟩)) ∧ w'.cell? ⟨q, 11, none⟩ = some (.int .u64 m.tl)) (first | go_keep | trivial)
  (first
   | (go_at_call 37; refine (sEnd_any _ H.out.drew).mono ?_; rintro e w4 ⟨rfl, b4⟩; have hc0 := fun o => b4.cell (p := ⟨pb, o, none⟩) (by simpa using l0); have hc2 := fun o => b4.cell (p := ⟨q, o, none⟩) (by simpa using hlt))
   | (go_at_call 74; refine (cStore_any q _ _ _ (m.c.b + m.c.s + 16) 8 _ _ _ _ (H.out.drew.below b4).mch).mono ?_; rintro e w5 ⟨rfl, t5, m5, l5, k5⟩; have hd0 := fun o => k5.cell (b := pb) o (by have := b4.size; simp at this; omega) n0; have hd2 := (sen_cells m5).2.2.2.2.1))
 all_goals
  have z4 := b4.size
  have z5 := k5.size
  simp at z4
  clear hc0 hc2 hd0 hd2
  go_wp2
  go_end0
  refine ⟨rfl, SenAt.made (by nofun) m5 ⟨_, l5.mono (fun i hi => .inr ⟨by have h9 := hi.1; (try simp at h9); omega, hi.2⟩), Clo.mk2 ?_ (.inl op) ?_ (.inl on)⟩, ((Keep.refl _ w).drew.trans (Below.keeps b4)).trans k5⟩
  ·exact ((P0.out.drew).below b4 (by simpa using l0)).keep k5 n0
  ·exact ((N0.out.drew).below b4 (by simpa using l2)).keep k5 n2
set_option maxHeartbeats 2000000 in
theorem sWriteK_any (a : Int) (pb ab nb : Nat) (w : World) (h : SenW w O q m bv) (hp : Blk w pb [ptr q]) (ha : Blk w ab [.int .i64 a]) (hn : Blk w nb [.int .u64 m.c.nd]) (op : O pb) (oa : O ab) (on : O nb) (ha0 : 0 ≤ a) (ha1 : a ≤ 131072) :
  Calls Tryz.prog 108 #[ptr pb, ptr ab, ptr nb] w fun e w' => e = .returned (.tuple #[]) ∧ SenTo w O q (({ m with pc := .wh a } : SenM).step anZ) bv w' := by
 have H := Lib.hid h
 obtain ⟨b0, b1, b2, b3, b4, b5, b6, b7, b8⟩ := h.bd
 have hlt := h.lt
 have l0 := hp.lt
 have l1 := ha.lt
 have l2 := hn.lt
 have nq := h.nq
 have n0 : pb ≠ q := fun e => h.nq (e ▸ op)
 have n1 : ab ≠ q := fun e => h.nq (e ▸ oa)
 have n2 : nb ≠ q := fun e => h.nq (e ▸ on)
 have P0 := Lib.hid hp
 have A0 := Lib.hid ha
 have N0 := Lib.hid hn
 have p0 := hp.cell 0
 have t0 := ha.cell 0
 have c10 := (sen_cells h.mch).2.2.2.1
 simp only [List.getElem?_cons_zero, ptr] at p0 t0
 have W1 : IntKind.i64.wrap (a + 8) = a + 8 := IntWalk.i64_in _ ⟨by omega, by omega⟩
 have hst : ({ m with pc := .wh a } : SenM).step anZ = { m with pc := if m.c.d.length = 0 then .la else .wb (a + 8) m.c.d } := rfl
 have HST := Lib.hid hst
 have hrd := h.rd
 have hob := h.ob
 unfold ptr
 clear h hp ha hn b0 b1 hst
 by_cases hz : m.c.d.length = 0
 ·obtain ⟨s0, sc, rfl⟩ : ∃ s0 sc, bv = .slice s0 0 sc := by
   rcases hrd with ⟨rfl, _⟩ | ⟨_, _, rfl, _⟩ | ⟨_, _, _, rfl, _⟩
   ·exact ⟨_, _, rfl⟩
   ·exact ⟨_, _, rfl⟩
   ·rw [hz]
    exact ⟨_, _, rfl⟩
  have hz' := Lib.hid hz
  clear hz hrd
  go_enter Tryz.func108, Tryz.ntmps108
  go_wp2_with fail
  go_region_held3 (fun w' => w'.cell? ⟨pb, 0, none⟩ = some (.pointer (some ⟨q, 0, none⟩)) ∧ w'.cell? ⟨ab, 0, none⟩ = some (.int .i64 a) ∧ w'.cell? ⟨q, 10, none⟩ = some (.slice s0 0 sc)) (first | go_keep | trivial)
   (first
    | (go_at_call 109; refine (cIn_end q (a + 8) s0 sc 110 _ _ (enSWrite1 _) (SenTo w O q { m with pc := .la } (.slice s0 0 sc)) (fun w2 b2 => (sWrite1_any pb nb w2 ((H.out.drew).below b2) ((P0.out.drew).below b2 (by simpa using l0)) ((N0.out.drew).below b2 (by simpa using l2)) op on).mono (fun e w' ⟨h1, h2⟩ => ⟨h1, h2.from (((Keep.refl _ w).drew).trans (Below.keeps b2)) (fun i hi => .inl hi)⟩))).mono ?_; rintro e w5 ⟨rfl, hto⟩; have hd0 := fun o => hto.2.cell (b := pb) o (by simpa using l0) n0; have hd1 := fun o => hto.2.cell (b := ab) o (by simpa using l1) n1; obtain ⟨cm, tm, hmm⟩ := hto.1.mch; have hd7 := (sen_cells hmm).2.2.2.1))
  all_goals
   clear hd0 hd1 hd7 hmm
   go_wp2
   go_end0
   refine ⟨rfl, ?_⟩
   rw [HST.out, if_pos hz'.out]
   exact hto
 ·rcases hrd with ⟨_, e⟩ | ⟨_, _, _, e, _⟩ | ⟨b, off, cap, rfl, hcap, hcm, hcell⟩
  ·rw [e] at hz; exact absurd rfl hz
  ·rw [e] at hz; exact absurd rfl hz
  have hbo : O b := hob b rfl
  have hbq : b ≠ q := fun e => nq (e ▸ hbo)
  have hz' := Lib.hid hz
  have HC := Lib.hid hcell
  have lb := World.block_lt_of_cell? w _ (hcell 0 (by omega))
  simp only at lb
  clear hz hcell
  go_enter Tryz.func108, Tryz.ntmps108
  go_wp2_with fail
  go_region_held3 (fun w' => w'.cell? ⟨pb, 0, none⟩ = some (.pointer (some ⟨q, 0, none⟩)) ∧ w'.cell? ⟨ab, 0, none⟩ = some (.int .i64 a) ∧ w'.cell? ⟨q, 10, none⟩ = some (.slice (some ⟨b, off, none⟩) m.c.d.length cap)) (first | go_keep | trivial)
   (first
    | (go_at_call 109; refine (cIn_st q _ _ _ (a + 8) b off cap m.c.d 110 _ _ O H.out.drew.mch hz'.out (by omega) hcap hcm hbo hbq (fun i hi => HC.out i hi)).mono ?_; rintro e w5 ⟨rfl, hin, k5⟩; have hd0 := fun o => k5.cell (b := pb) o (by simpa using l0) n0; have hd1 := fun o => k5.cell (b := ab) o (by simpa using l1) n1; have hd7 : w5.cell? ⟨q, 10, none⟩ = some (.slice (some ⟨b, off, none⟩) m.c.d.length cap) := by obtain ⟨_, _, _, _, _, hmm, _⟩ := hin; exact (sen_cells hmm).2.2.2.1))
  all_goals
   clear hd0 hd1 hd7
   have z5 := k5.size
   simp at z5
   go_wp2
   go_end0
   refine ⟨rfl, ?_⟩
   rw [HST.out, if_neg hz'.out]
   refine ⟨⟨_, hin.mono (fun i hi => hi.imp id (fun h9 => ⟨by have := h9.1; try simp at this; omega, h9.2⟩)), Clo.mk2 ?_ (.inl op) ?_ (.inl on)⟩, ((Keep.refl _ w).drew).trans k5⟩
   ·exact (P0.out.drew).keep k5 n0
   ·exact (N0.out.drew).keep k5 n2
def SenM.pcOk (m : SenM) : Prop := match m.pc with
 | .wh a => 0 ≤ a ∧ a ≤ 131072
 | .wb p l => (0 ≤ p ∧ p + l.length ≤ 200000) ∧ l.length ≤ 1024 ∧ IsB l ∧ l.length ≠ 0
 | _ => True
structure SenM.fine (m : SenM) : Prop where
 b : IsB m.c.d
 ok : m.live = true → m.c.ok = true
 tl : inU m.tl
 pc : m.pcOk
theorem SenM.fine.step (h : m.fine) (hl : m.live = true) {x : AN} (hx : inU x.v) : (m.step x).fine := by
 have hok := h.ok hl
 have hp := h.pc
 have htl := h.tl
 obtain ⟨b1, b2, b3, b4, b5, b6, b7⟩ := PutC.bd hok
 obtain ⟨c, pc, tl, e⟩ := m
 dsimp only at hok b1 b2 b3 b4 b5 b6 b7 htl
 cases pc with
 | done => exact h
 | tl =>
  refine ⟨h.b, fun _ => hok, hx, ?_⟩
  show SenM.pcOk ⟨c, if _ then _ else _, x.v, e⟩
  split <;> trivial
 | is =>
  have m1 := Int.emod_nonneg tl (show c.s ≠ 0 by omega)
  have m2 := Int.emod_lt_of_pos tl (show 0 < c.s by omega)
  exact ⟨h.b, fun _ => hok, htl, show 0 ≤ c.b + tl % c.s ∧ c.b + tl % c.s ≤ 131072 by omega⟩
 | ip => exact ⟨h.b, fun _ => hok, htl, trivial⟩
 | pd => exact ⟨h.b, fun _ => hok, u64_bdP _, show 0 ≤ c.b ∧ c.b ≤ _ by omega⟩
 | wh a =>
  have hp' : 0 ≤ a ∧ a ≤ 131072 := hp
  refine ⟨h.b, fun _ => hok, htl, ?_⟩
  show SenM.pcOk ⟨c, if _ then _ else _, tl, e⟩
  split
  ·trivial
  ·exact (show (0 ≤ a + 8 ∧ a + 8 + (c.d.length : Int) ≤ 200000) ∧ c.d.length ≤ 1024 ∧ IsB c.d ∧ c.d.length ≠ 0 from ⟨by omega, by omega, h.b, by assumption⟩)
 | wb p l =>
  obtain ⟨q2, q3, q4, q5⟩ := hp
  refine ⟨h.b, fun _ => hok, htl, ?_⟩
  show SenM.pcOk ⟨c, if _ then _ else _, tl, e⟩
  split
  ·trivial
  ·refine ⟨?_, ?_, q4.drop 8, ?_⟩ <;> simp <;> omega
 | la => exact ⟨h.b, fun _ => hok, htl, trivial⟩
 | ta => exact ⟨h.b, fun _ => hok, htl, trivial⟩
theorem SenM.fine.wf (h : m.fine) : m.want.wf := by
 have hp := h.pc
 have u0 : inU 0 := ⟨by omega, by omega⟩
 have ub := fun x => u64_bdP x
 have ur := fun x y => recS_bdP x y
 have ht := h.tl
 obtain ⟨c, pc, tl, e⟩ := m
 cases pc with
 | done => exact ⟨IsB.nil, by simp [SenM.want, aaZ], u0.1, u0.2, u0.1, u0.2⟩
 | tl => exact ⟨IsB.nil, by simp [SenM.want], u0.1, u0.2, u0.1, u0.2⟩
 | is => exact ⟨IsB.nil, by simp [SenM.want], (ub _).1, (ub _).2, u0.1, u0.2⟩
 | ip => exact ⟨IsB.nil, by simp [SenM.want], (ub _).1, (ub _).2, u0.1, u0.2⟩
 | pd => exact ⟨IsB.nil, by simp [SenM.want], (ur _ _).1, (ur _ _).2, u0.1, u0.2⟩
 | wh a => exact ⟨IsB.nil, by simp [SenM.want], (ur _ _).1, (ur _ _).2, u0.1, u0.2⟩
 | wb p l => exact ⟨hp.2.2.1.take 8, by simp [SenM.want]; omega, u0.1, u0.2, u0.1, u0.2⟩
 | la => exact ⟨IsB.nil, by simp [SenM.want], ht.1, ht.2, u0.1, u0.2⟩
 | ta => exact ⟨IsB.nil, by simp [SenM.want], (ub _).1, (ub _).2, u0.1, u0.2⟩
structure SenI (w : World) (O : Nat → Prop) (q : Nat) (m : SenM) (bv : Value) : Prop where
 at_ : SenAt w O q m bv
 rd : RdB w bv m.c.d
 ob : ∀ i, bv.ownBlock = some i → O i
 nq : ¬ O q
 fine : m.fine
theorem SenI.w {w w1 : World} (h : SenI w O q m bv) (hl : m.live = true) (m1 : Mch w1 q accZ .nilFunc (m.rest bv)) (k1 : Keep (· = q) w w1) : SenW w1 O q m bv :=
 ⟨m1, h.rd.keepP k1 (fun i hi e => h.nq (e ▸ h.ob i hi)), h.ob, h.nq, h.fine.ok hl⟩
set_option maxHeartbeats 2000000 in
theorem scTake_any (v : Int) (d : Bool) (bs : List Int) (s0 : Option Addr) (sl sc : Nat) (w : World) (h : SenI w O q m bv) (hl : m.live = true) :
  Calls Tryz.prog 192 #[.pointer (some ⟨q, 0, none⟩), .agg #[.int .u64 v, .bool d, .slice s0 sl sc]] w fun e w' => e = .returned (.tuple #[]) ∧ SenTo w O q (m.step ⟨v, d, bs⟩) bv w' := by
 have hW := fun w1 => h.w (w1 := w1) hl
 have nq := h.nq
 have hA := h.at_
 have hF := h.fine.pc
 have hok := h.fine.ok hl
 obtain ⟨b1, b2, b3, b4, b5, b6, b7⟩ := PutC.bd hok
 clear h
 have nqb : ∀ b, O b → b ≠ q := fun b hb e => nq (e ▸ hb)
 obtain ⟨c, pc, tl, e⟩ := m
 dsimp only at hok b1 b2 b3 b4 b5 b6 b7
 cases pc with
 | done => cases hl
 | tl =>
  obtain ⟨t, hm, c1⟩ := hA
  refine takeLoadB O q _ t _ _ _ v d s0 sl sc w hm c1 nq enSBegin _ (fun w1 m1 k1 => ?_)
  refine (sBegin_any v w1 (hW w1 m1 k1)).mono ?_
  rintro e2 w' ⟨rfl, hto⟩
  exact ⟨rfl, hto.after k1⟩
 | is =>
  obtain ⟨t, hm, v1, c1, c2⟩ := hA
  obtain ⟨pb, ab, nb, rfl, ⟨hp, op⟩, ⟨ha, oa⟩, hn, on⟩ := c2.c3
  refine takeStore O q _ t _ _ _ v d s0 sl sc w hm c1 nq enSBegin1 _ (fun w1 m1 k1 => ?_)
  refine (sBegin1_any _ pb ab nb w1 (hW w1 m1 k1) (hp.keep k1 (nqb pb op)) (ha.keep k1 (nqb ab oa)) (hn.keep k1 (nqb nb on))).mono ?_
  rintro e2 w' ⟨rfl, hto⟩
  exact ⟨rfl, hto.after k1⟩
 | ip =>
  obtain ⟨t, hm, v1, c1, c2⟩ := hA
  obtain ⟨pb, ab, gb, nb, rfl, ⟨hp, op⟩, ⟨ha, oa⟩, ⟨hg, og⟩, hn, on⟩ := c2.c4
  refine takeStore O q _ t _ _ _ v d s0 sl sc w hm c1 nq enSBegin2 _ (fun w1 m1 k1 => ?_)
  refine (sBegin2_any pb ab gb nb w1 (hW w1 m1 k1) (hp.keep k1 (nqb pb op)) (ha.keep k1 (nqb ab oa)) (hg.keep k1 (nqb gb og)) (hn.keep k1 (nqb nb on)) op oa og on).mono ?_
  rintro e2 w' ⟨rfl, hto⟩
  exact ⟨rfl, hto.after k1⟩
 | pd =>
  obtain ⟨t, hm, v1, c1, c2⟩ := hA
  obtain ⟨pb, gb, nb, rfl, ⟨hp, op⟩, ⟨hg, og⟩, hn, on⟩ := c2.c3
  refine takeStore O q _ t _ _ _ v d s0 sl sc w hm c1 nq enSBegin3 _ (fun w1 m1 k1 => ?_)
  refine (sBegin3_any pb gb nb w1 (hW w1 m1 k1) (hp.keep k1 (nqb pb op)) (hg.keep k1 (nqb gb og)) (hn.keep k1 (nqb nb on)) (nqb pb op) (nqb gb og) (nqb nb on)).mono ?_
  rintro e2 w' ⟨rfl, hto⟩
  exact ⟨rfl, hto.after k1⟩
 | wh a =>
  obtain ⟨t, hm, v1, c1, c2⟩ := hA
  obtain ⟨pb, ab, nb, rfl, ⟨hp, op⟩, ⟨ha, oa⟩, hn, on⟩ := c2.c3
  refine takeStore O q _ t _ _ _ v d s0 sl sc w hm c1 nq enSWriteK _ (fun w1 m1 k1 => ?_)
  refine (sWriteK_any a pb ab nb w1 (hW w1 m1 k1) (hp.keep k1 (nqb pb op)) (ha.keep k1 (nqb ab oa)) (hn.keep k1 (nqb nb on)) op oa on hF.1 hF.2).mono ?_
  rintro e2 w' ⟨rfl, hto⟩
  exact ⟨rfl, hto.after k1⟩
 | wb p l =>
  obtain ⟨f0, hin, c2⟩ := hA
  obtain ⟨pb, nb, rfl, ⟨hp, op⟩, hn, on⟩ := c2.c2
  obtain ⟨q2, q3, q4, q5⟩ := hF
  by_cases h8 : 8 < l.length
  ·refine (inTake_more O q p l _ _ _ v d s0 sl sc w hin nq h8 (by omega) (by omega) (by omega)).mono ?_
   rintro e2 w' ⟨rfl, hin', k'⟩
   refine ⟨rfl, ?_⟩
   have e3 : SenM.step ⟨c, .wb p l, tl, e⟩ ⟨v, d, bs⟩ = ⟨c, .wb (p + 8) (l.drop 8), tl, e⟩ := by
    show SenM.mk c (if l.length ≤ 8 then _ else _) tl e = _
    rw [if_neg (by omega)]
   rw [e3]
   exact ⟨⟨_, hin', Clo.mk2 (hp.keep k' (nqb pb op)) (.inl op) (hn.keep k' (nqb nb on)) (.inl on)⟩, k'⟩
  ·refine (inTake_last O q p l _ _ _ v d s0 sl sc w hin nq (by omega) (by omega) (by omega) (enSWrite1 _) (fun w' => SenTo w O q (SenM.step ⟨c, .wb p l, tl, e⟩ ⟨v, d, bs⟩) bv w') (· = q) rfl (fun i hi => nqb i hi) (fun w1 m1 k1 => ?_)).mono ?_
   ·refine (sWrite1_any pb nb w1 (hW w1 m1 k1) (hp.keep k1 (nqb pb op)) (hn.keep k1 (nqb nb on)) op on).mono ?_
    rintro e2 w' ⟨rfl, hto⟩
    have e3 : SenM.step ⟨c, .wb p l, tl, e⟩ ⟨v, d, bs⟩ = ⟨c, .la, tl, e⟩ := by
     show SenM.mk c (if l.length ≤ 8 then _ else _) tl e = _
     rw [if_pos (by omega)]
    rw [e3]
    exact ⟨rfl, hto.after k1, hto.2⟩
   ·rintro e2 w' ⟨rfl, hto, k'⟩
    exact ⟨rfl, hto⟩
 | la =>
  obtain ⟨t, hm, v1, c1, c2⟩ := hA
  obtain ⟨pb, nb, rfl, ⟨hp, op⟩, hn, on⟩ := c2.c2
  refine takeStore O q _ t _ _ _ v d s0 sl sc w hm c1 nq enSWrite2 _ (fun w1 m1 k1 => ?_)
  refine (sWrite2_any pb nb w1 (hW w1 m1 k1) (hp.keep k1 (nqb pb op)) (hn.keep k1 (nqb nb on)) op on).mono ?_
  rintro e2 w' ⟨rfl, hto⟩
  exact ⟨rfl, hto.after k1⟩
 | ta =>
  obtain ⟨t, hm, v1, c1, c2⟩ := hA
  obtain ⟨pb, rfl, hp, op⟩ := c2.c1
  refine takeStore O q _ t _ _ _ v d s0 sl sc w hm c1 nq enSWrite3 _ (fun w1 m1 k1 => ?_)
  refine (sWrite3_any pb w1 (hW w1 m1 k1) (hp.keep k1 (nqb pb op))).mono ?_
  rintro e2 w' ⟨rfl, hto⟩
  exact ⟨rfl, hto.after k1⟩
theorem scNext_any (w : World) (h : SenI w O q m bv) :
  Calls Tryz.prog 113 #[.pointer (some ⟨q, 0, none⟩)] w fun e w' => ∃ s0 sl sc, e = .returned (.tuple #[m.want.V (.slice s0 sl sc), .bool m.live]) ∧ RdB w' (.slice s0 sl sc) m.want.b ∧ Below w.heap.size w w' := by
 have hA := h.at_
 obtain ⟨c, pc, tl, e⟩ := m
 have more : ∀ (a : AA) (f : Nat) (xs : List Value) (t : Value) (r : List Value), a.b = [] → Mch w q a.acc t r → Clo w O t f xs → Calls Tryz.prog 113 #[.pointer (some ⟨q, 0, none⟩)] w fun e w' => ∃ s0 sl sc, e = .returned (.tuple #[a.V (.slice s0 sl sc), .bool true]) ∧ RdB w' (.slice s0 sl sc) a.b ∧ Below w.heap.size w w' := by
  intro a f xs t r hb hm hc
  obtain ⟨bs, rfl, _⟩ := hc
  refine (cNext_more q a.k a.a a.n a.v a.x none 0 0 f _ r w hm).mono ?_
  rintro e w' ⟨rfl, b⟩
  exact ⟨none, 0, 0, rfl, by rw [hb]; exact .inl ⟨rfl, rfl⟩, b⟩
 cases pc with
 | done =>
  obtain ⟨t, hm, rfl⟩ := hA
  refine (cNext_end q _ _ w hm).mono ?_
  rintro e w' ⟨rfl, b⟩
  exact ⟨none, 0, 0, rfl, .inl ⟨rfl, rfl⟩, b⟩
 | tl => obtain ⟨t, hm, c1⟩ := hA; exact more _ _ _ _ _ rfl hm c1
 | wb p l =>
  obtain ⟨f0, ⟨b, off, cap, n, t, hm, hn, hl0, hc, hcm, ⟨cb, ab, nb, bb, tb, rfl, _⟩, ob, hcell⟩, _⟩ := hA
  refine (cNext_more q 6 p n 0 0 (some ⟨b, off, none⟩) n n _ _ _ w hm).mono ?_
  rintro e2 w' ⟨rfl, b2⟩
  have hn' : (n : Int) = min (l.length : Int) 8 := by omega
  refine ⟨some ⟨b, off, none⟩, n, n, ?_, ?_, b2⟩
  ·simp only [AA.V, SenM.want, SenM.live, Acc.V]
   rw [hn']
  ·have hl8 : (l.take 8).length = n := by simp; omega
   show RdB w' _ (l.take 8)
   rw [← hl8]
   refine .inr <| .inr ⟨b, off, _, rfl, Nat.le_refl _, by omega, fun i hi => ?_⟩
   have hci := hcell i (by omega)
   rw [b2.cell (p := ⟨b, off + i, none⟩) (World.block_lt_of_cell? w _ hci), hci, gB_take _ _ _ (by omega)]
 | _ => obtain ⟨t, hm, v1, c1, _⟩ := hA; exact more _ _ _ _ _ rfl hm c1
set_option maxHeartbeats 1000000 in
theorem sNext_any (w : World) (h : SenI w O q m bv) :
  Calls Tryz.prog 87 #[.pointer (some ⟨q, 0, none⟩)] w fun e w' => ∃ s0 sl sc, e = .returned (.tuple #[m.want.V (.slice s0 sl sc), .bool m.live]) ∧ RdB w' (.slice s0 sl sc) m.want.b ∧ Below w.heap.size w w' := by
 have hlt : q < w.heap.size := by obtain ⟨c, t, hm⟩ := h.at_.mch; exact Blk.lt hm
 have HI := Lib.hid h
 obtain ⟨W, hW⟩ : ∃ W, W = m.want := ⟨_, rfl⟩
 obtain ⟨L, hL⟩ : ∃ L, L = m.live := ⟨_, rfl⟩
 have HW := Lib.hid hW
 have HL := Lib.hid hL
 rw [← hW, ← hL]
 clear h hW hL
 go_enter Tryz.func87, Tryz.ntmps87
 go_wp2_with fail
 refine (scNext_any (w.alloc (.cells #[.int .i64 0, .int .i64 0, .int .i64 0, .int .u64 0, .int .u64 0, .slice none 0 0] 72)) ⟨HI.out.at_.keep (Below.keeps (M := fun _ => False) ((Below.refl w.heap.size w).alloc (Nat.le_refl _) _)) (fun _ _ => id) id, HI.out.rd.below ((Below.refl w.heap.size w).alloc (Nat.le_refl _) _), HI.out.ob, HI.out.nq, HI.out.fine⟩).mono ?_
 rintro e w1 ⟨s0, sl, sc, rfl, hr, b1⟩
 rw [← HW.out, ← HL.out]
 rw [← HW.out] at hr
 unfold AA.V
 dsimp only
 have z1 := b1.size
 simp at z1
 have A1 := Lib.hid (Blk.below (Blk.made w #[.int .i64 0, .int .i64 0, .int .i64 0, .int .u64 0, .int .u64 0, .slice none 0 0] 72) b1 (by simp))
 have B1 : Below w.heap.size w w1 := ((Below.refl w.heap.size w).alloc (Nat.le_refl _) _).trans (b1.mono (by simp))
 have y1 : w.heap.size < w1.heap.size := by omega
 have HR := Lib.hid hr
 clear b1 hr
 have a0 := A1.out.cell 0
 have a1 := A1.out.cell 1
 have a2 := A1.out.cell 2
 have a3 := A1.out.cell 3
 have a4 := A1.out.cell 4
 have a5 := A1.out.cell 5
 have e0 := A1.out.frozen 0
 have e1 := A1.out.frozen 1
 have e2 := A1.out.frozen 2
 have e3 := A1.out.frozen 3
 have e4 := A1.out.frozen 4
 have e5 := A1.out.frozen 5
 simp only [List.getElem?_toArray, List.getElem?_cons_zero, List.getElem?_cons_succ] at a0 a1 a2 a3 a4 a5
 go_wp2
 refine bodyPost_ret (v := .tuple #[W.V (.slice s0 sl sc), .bool L]) (res_aa (c := W) rfl rfl rfl (((((((A1.out.set 0 _).set 1 _).set 2 _).set 3 _).set 4 _).set 5 _))) rfl ⟨s0, sl, sc, rfl, ?_, ?_⟩
 ·refine HR.out.keep (K := (· = w.heap.size)) ?_ (fun h => HR.out.apart h A1.out rfl)
  repeat' (refine Keep.setCell (M := (· = w.heap.size)) ?_ (Or.inl (by simp)) _)
  exact Keep.refl _ _
 ·repeat' (refine Below.setCell ?_ (by simp; try omega) _)
  exact B1
theorem SenTo.i {w w' : World} {m m' : SenM} (h : SenI w O q m bv) (hto : SenTo w O q m' bv w') (hc : m'.c = m.c) (hf : m'.fine) : SenI w' (Gr O w w') q m' bv := by
 obtain ⟨c, t, hm⟩ := h.at_.mch
 have hlt : q < w.heap.size := Blk.lt hm
 refine ⟨hto.1, ?_, fun i hi => .inl (h.ob i hi), ?_, hf⟩
 ·rw [hc]
  exact h.rd.keepP hto.2 (fun i hi e => h.nq (e ▸ h.ob i hi))
 ·rintro (h1 | h1)
  ·exact h.nq h1
  ·omega
theorem SenM.step_c (m : SenM) (x : AN) : (m.step x).c = m.c := by
 unfold SenM.step
 split <;> rfl
theorem SenI.keep {w w' : World} {O M : Nat → Prop} (h : SenI w O q m bv) (k : Keep M w w') (hd : ∀ i, O i → ¬ M i) (hq : ¬ M q) : SenI w' O q m bv :=
 ⟨h.at_.keep k hd hq, h.rd.keepP k (fun i hi => hd i (h.ob i hi)), h.ob, h.nq, h.fine⟩
theorem SenI.below {w w' : World} (h : SenI w O q m bv) (b : Below w.heap.size w w') : SenI w' O q m bv := h.keep (M := fun _ => False) (Below.keeps b) (fun _ _ => id) id
set_option maxHeartbeats 2000000 in
theorem sTake_any (x : AN) (s0 : Option Addr) (sl sc : Nat) (w : World) (h : SenI w O q m bv) (hl : m.live = true) (hx : inU x.v) :
  Calls Tryz.prog 191 #[.pointer (some ⟨q, 0, none⟩), .agg #[.int .u64 x.v, .bool x.d, .slice s0 sl sc]] w fun e w' => e = .returned (.tuple #[]) ∧ SenI w' (Gr O w w') q (m.step x) bv ∧ Keep (· = q) w w' := by
 have hlt : q < w.heap.size := by obtain ⟨c, t, hm⟩ := h.at_.mch; exact Blk.lt hm
 have HI := Lib.hid h
 have HF := Lib.hid (h.fine.step hl hx)
 clear h
 go_enter Tryz.func191, Tryz.ntmps191
 go_wp2_with fail
 go_region_held3 (fun w' => w'.cell? ⟨w.heap.size, 0, none⟩ = some (.int .u64 x.v) ∧ w'.cell? ⟨w.heap.size, 1, none⟩ = some (.bool x.d) ∧ w'.cell? ⟨w.heap.size, 2, none⟩ = some (.slice s0 sl sc)) (first | go_keep | trivial)
  (first
   | (go_at_call 192; refine (scTake_any x.v x.d x.b s0 sl sc _ (HI.out.below (by go_grown)) hl).mono ?_; rintro e w2 ⟨rfl, hto⟩; have hc := fun o => hto.2.cell (b := w.heap.size) o (by simp) (by show ¬ w.heap.size = q; omega)))
 all_goals
  clear hc
  go_wp2
  go_end0
  have hto2 := hto.from (w := w) (O := O) (((Keep.refl _ w).alloc _).drew) (fun i hi => .inl hi)
  exact ⟨rfl, hto2.i HI.out (SenM.step_c m x) HF.out, hto2.2⟩
def SenM.rv (m : SenM) : Int := if m.e = 0 then s64 m.tl else 0
set_option maxHeartbeats 1000000 in
theorem sResult_any (w : World) (h : SenAt w O q m bv) :
  Calls Tryz.prog 13 #[.pointer (some ⟨q, 0, none⟩)] w fun e w' => e = .returned (.tuple #[.int .i64 m.rv, .int .i64 m.e]) ∧ Below w.heap.size w w' := by
 obtain ⟨c, t, hm⟩ := h.mch
 obtain ⟨_, _, _, _, c11, c12⟩ := sen_cells hm
 have hlt : q < w.heap.size := Blk.lt hm
 clear h hm
 by_cases he : m.e = 0
 ·have hv : m.rv = s64 m.tl := if_pos he
  rw [hv]
  rw [he] at c12 ⊢
  have HW := Lib.hid (show wrap64 m.tl = s64 m.tl by unfold wrap64 s64; rfl)
  clear hv he
  go_enter Tryz.func13, Tryz.ntmps13
  go_wp2
  go_ret2
  exact ⟨by rw [← HW.out]; rfl, Below.refl _ _⟩
 ·have hv : m.rv = 0 := if_neg he
  rw [hv]
  have he' : (m.e != 0) = true := by simpa using he
  clear hv
  go_enter Tryz.func13, Tryz.ntmps13
  go_wp2_with fail
  go_quiet (fail)
  go_wp2
  go_ret2
  exact ⟨rfl, bel_drewN _ (Below.refl _ _)⟩
set_option maxHeartbeats 1000000 in
theorem sNext_nil (w : World) : Calls Tryz.prog 87 #[.pointer none] w fun e w' => e = .returned (.tuple #[aaZ.V (.slice none 0 0), .bool false]) ∧ Below w.heap.size w w' := by
 go_enter Tryz.func87, Tryz.ntmps87
 go_wp2
 refine bodyPost_ret (v := .tuple #[aaZ.V (.slice none 0 0), .bool false]) (res_aa (c := aaZ) rfl rfl rfl (Blk.made _ _ _)) rfl ⟨rfl, by go_grown⟩
set_option maxHeartbeats 4000000 in
theorem sNew_any (b s typ : Int) (s0 : Option Addr) (sl sc : Nat) (l : List Int) (w : World) (hr : RdB w (.slice s0 sl sc) l) (hl : l.length ≤ 70368744177664) (hB : IsB l) (hb0 : -9223372036854775808 ≤ b) (hb1 : b ≤ 9223372036854775807) (hs0 : -9223372036854775808 ≤ s) (hs1 : s ≤ 9223372036854775807) :
  Calls Tryz.prog 10 #[.agg #[.int .i64 b, .int .i64 s], .int .i32 typ, .slice s0 sl sc] w fun e w' => ∃ q bv, e = .returned (.pointer (some ⟨q, 0, none⟩)) ∧ w.heap.size ≤ q ∧ q < w'.heap.size ∧ SenI w' (fun k => w.heap.size ≤ k ∧ k < w'.heap.size ∧ k ≠ q) q (SenM.init ⟨b, s, typ, l⟩) bv ∧ Below w.heap.size w w' := by
 have HR := Lib.hid hr
 have hsl := rd_len hr
 have HSL := Lib.hid hsl
 have HB := Lib.hid hB
 have HL := Lib.hid hl
 have b1 : Below w.heap.size w (w.alloc (.cells #[.int .i64 b, .int .i64 s] 25)) := by go_grown
 have R1 := Lib.hid (hr.below b1)
 have X1 := Lib.hid (Blk.made w #[.int .i64 b, .int .i64 s] 25)
 clear hr hsl hB b1
 go_enter Tryz.func10, Tryz.ntmps10
 go_upto_region 1 with fail
 obtain ⟨w1, hw1⟩ : ∃ w1, w1 = w.alloc (.cells #[.int .i64 b, .int .i64 s] 25) := ⟨_, rfl⟩
 rw [← hw1] at R1 X1 ⊢
 have y1 : w.heap.size < w1.heap.size := by rw [hw1]; simp
 have B1 := Lib.hid (show Below w.heap.size w w1 by rw [hw1]; go_grown)
 have x0 := X1.out.cell 0
 have x1 := X1.out.cell 1
 simp only [List.getElem?_cons_zero, List.getElem?_cons_succ] at x0 x1
 clear hw1
 go_cut [7] from 8 to 13 (fun pp wx => ∃ q a n c, pp = .pointer (some ⟨q, 0, none⟩) ∧ w1.heap.size ≤ q ∧ Mch wx q accZ .nilFunc [.int .i64 b, .int .i64 s, .int .i32 typ, .slice a n c, .int .u64 0, .int .i64 10] ∧ OwB 5 w1.heap.size wx (.slice a n c) l ∧ (Value.slice a n c).ownBlock ≠ some q ∧ Below w1.heap.size w1 wx)
 case first =>
  refine wp_region_held_drew (S := fun w' => w'.cell? ⟨w.heap.size, 0, none⟩ = some (.int .i64 b) ∧ w'.cell? ⟨w.heap.size, 1, none⟩ = some (.int .i64 s)) (by kernel_rfl) ?_ (fun hHeld => ?_)
  ·try dsimp only
   exact ⟨x0, x1⟩
  refine wpT 0 rfl ?_
  try simp only [Act.put, tS]
  refine wpT 1 rfl ?_
  try simp only [Act.put, tS]
  refine wpT 2 rfl ?_
  try simp only [Act.put, tS]
  refine wpR 3 rfl fun K hK => ?_
  go_simp
  go_at_call 34
  refine (clone_any _ l _ (R1.out.below (by go_grown)) HL.out).mono ?_
  rintro e w2 ⟨s2, rfl, o2, b2⟩
  obtain ⟨a2, n2, c2, rfl⟩ := o2.isSliceC
  have hc := fun o => b2.cell (p := ⟨w.heap.size, o, none⟩) (by simp; omega)
  have z2 := b2.size
  simp at z2
  have b2' : Below w1.heap.size w1 w2 := bel_drewP b2
  have z2' : w1.heap.size ≤ w2.heap.size := b2'.size
  go_wp2_with fail
  refine hK.out _ _ ?_ (fun hHeld => ?_)
  ·try dsimp only
   go_keep
  clear hK K
  try simp only [Act.put, tS]
  refine wpT 4 rfl ?_
  try simp only [Act.put, tS]
  refine wpR 5 rfl fun K hK => ?_
  go_simp
  go_wp2_with fail
  refine hK.out _ _ ?_ (fun hHeld => ?_)
  ·try dsimp only
   go_keep
  clear hK K
  try simp only [Act.put, tS]
  refine wpR 6 rfl fun K hK => ?_
  go_simp
  refine hK.out _ _ ?_ (fun hHeld => ?_)
  ·try dsimp only
   go_keep
  clear hK K
  try simp only [Act.put, tS]
  refine wpAnyH_done (by kernel_rfl) ?_ _
  go_wp2_with fail
  go_meet
  exact ⟨w2.heap.size, a2, n2, c2, rfl, by omega, Blk.made w2 _ _, o2.below ((Below.refl _ _).alloc (Nat.le_refl _) _), fun e => by have := (o2.fresh _ e).2; omega, b2'.alloc z2' _⟩
 case rest =>
  obtain ⟨q, a, n, c, rfl, lq, hm, ho, nq, bb⟩ := hcut
  have ha := ho.rd
  have hfr := ho.fresh
  have B2 := Lib.hid (B1.out.trans (bb.mono (by omega)))
  have X2 := Lib.hid (X1.out.below bb y1)
  have x0' := X2.out.cell 0
  have x1' := X2.out.cell 1
  simp only [List.getElem?_toArray, List.getElem?_cons_zero, List.getElem?_cons_succ] at x0' x1'
  have zc := bb.size
  have HM := Lib.hid hm
  have HA := Lib.hid ha
  have ltq := hm.lt
  clear hm ho bb ha x0 x1
  have HN : Hid ((SenM.init ⟨b, s, typ, l⟩).fine) := by
   refine Lib.hid ⟨HB.out, fun h => ?_, ⟨Int.le_refl 0, show (0 : Int) ≤ 18446744073709551615 by omega⟩, ?_⟩
   ·unfold SenM.init SenM.live at h
    dsimp only at h
    by_cases hk : (PutC.mk b s typ l).ok = true
    ·exact hk
    ·rw [if_neg hk] at h
     cases h
   ·unfold SenM.init SenM.pcOk
    dsimp only
    split <;> first | trivial | (rename_i h; split at h <;> simp at h)
  by_cases hg : rgOk b s = true
  ·have hE : rgE b s = 0 := if_pos hg
   have RG := Lib.hid hE
   obtain ⟨r1, r2, r3, r4, r5, r6⟩ := rgOk_bd hg
   have HG := Lib.hid hg
   clear hE r1 hg
   by_cases ht : typ < 1
   ·have hto : ¬ 1 ≤ typ := by omega
    have hg := HG.out
    have hI : SenM.init ⟨b, s, typ, l⟩ = ⟨⟨b, s, typ, l⟩, .done, 0, 1⟩ := by
     have h1 : (PutC.mk b s typ l).ok = false := by unfold PutC.ok; simp [hg, hto]
     unfold SenM.init PutC.e0
     rw [h1]
     simp [hg, hto]
    have HI := Lib.hid hI
    clear hI hg hto
    go_wp2_with fail
    refine (rCheck_any b s _ hb0 hb1 hs0 hs1).mono ?_
    rintro e w3 ⟨rfl, b3⟩
    rw [RG.out]
    have z3 := b3.size
    have HM3 := Lib.hid (show Mch w3 q accZ .nilFunc [.int .i64 b, .int .i64 s, .int .i32 typ, .slice a n c, .int .u64 0, .int .i64 10] from Blk.below HM.out b3 ltq)
    have HA3 := Lib.hid (HA.out.below b3)
    have B3 := Lib.hid (B2.out.trans (b3.mono (by omega)))
    have X3 := Lib.hid (X2.out.below b3 (by omega))
    have y0 := X3.out.cell 0
    have y1' := X3.out.cell 1
    have d12 := Blk.cell HM3.out 12
    have g12 := Blk.frozen HM3.out 12
    simp only [List.getElem?_toArray, Acc.cs, accZ, List.cons_append, List.nil_append, List.getElem?_cons_zero, List.getElem?_cons_succ] at y0 y1' d12
    have ltq3 : q < w3.heap.size := by omega
    have ltw3 : w.heap.size < w3.heap.size := by omega
    clear b3 HM HA B2 X2 x0' x1' zc
    go_wp2
    go_ret
    refine ⟨q, .slice a n c, rfl, by omega, by simpa using ltq3, ?_, B3.out.setCell (p := ⟨q, 12, none⟩) (by show w.heap.size ≤ q; omega) _⟩
    have hN := HN.out
    rw [HI.out] at hN ⊢
    refine ⟨SenAt.made (by nofun) (t := .nilFunc) (Blk.set HM3.out 12 (.int .i64 1)) rfl, ?_, ?_, fun h => h.2.2 rfl, hN⟩
    ·exact HA3.out.keepP (K := (· = q)) (Keep.setCell (M := (· = q)) (Keep.refl _ _) (p := ⟨q, 12, none⟩) (.inl rfl) _) (fun i hi e => nq (e ▸ hi))
    ·intro i hi
     have h9 := hfr i hi
     exact ⟨by omega, by simp; omega, fun e => nq (e ▸ hi)⟩
   ·have hto : 1 ≤ typ := by omega
    have hs8 : s.tdiv 8 = s / 8 := Int.tdiv_eq_ediv_of_nonneg (by omega)
    have W8 : IntKind.i64.wrap (s / 8) = s / 8 := IntWalk.i64_in _ ⟨by omega, by omega⟩
    have W8' : IntKind.i64.wrap (s.tdiv 8) = s.tdiv 8 := IntWalk.i64_in _ ⟨by omega, by omega⟩
    by_cases hlen : s / 8 < (l.length : Int)
    ·have hle : ¬ (l.length : Int) ≤ s / 8 := by omega
     have hg := HG.out
     have hI : SenM.init ⟨b, s, typ, l⟩ = ⟨⟨b, s, typ, l⟩, .done, 0, 4⟩ := by
      have h1 : (PutC.mk b s typ l).ok = false := by unfold PutC.ok; simp [hg, hto, hle]
      unfold SenM.init PutC.e0
      rw [h1]
      simp [hg, hto, hle]
     have HI := Lib.hid hI
     clear hI hg hle
     have hlen' : s / 8 < (sl : Int) := by have := HSL.out; omega
     rw [← hs8] at hlen'
     go_wp2_with fail
     refine (rCheck_any b s _ hb0 hb1 hs0 hs1).mono ?_
     rintro e w3 ⟨rfl, b3⟩
     rw [RG.out]
     have z3 := b3.size
     have HM3 := Lib.hid (show Mch w3 q accZ .nilFunc [.int .i64 b, .int .i64 s, .int .i32 typ, .slice a n c, .int .u64 0, .int .i64 10] from Blk.below HM.out b3 ltq)
     have HA3 := Lib.hid (HA.out.below b3)
     have B3 := Lib.hid (B2.out.trans (b3.mono (by omega)))
     have X3 := Lib.hid (X2.out.below b3 (by omega))
     have y0 := X3.out.cell 0
     have y1' := X3.out.cell 1
     have d12 := Blk.cell HM3.out 12
     have g12 := Blk.frozen HM3.out 12
     simp only [List.getElem?_toArray, Acc.cs, accZ, List.cons_append, List.nil_append, List.getElem?_cons_zero, List.getElem?_cons_succ] at y0 y1' d12
     have ltq3 : q < w3.heap.size := by omega
     have ltw3 : w.heap.size < w3.heap.size := by omega
     clear b3 HM HA B2 X2 x0' x1' zc
     go_wp2
     go_ret
     refine ⟨q, .slice a n c, rfl, by omega, by simpa using ltq3, ?_, B3.out.setCell (p := ⟨q, 12, none⟩) (by show w.heap.size ≤ q; omega) _⟩
     have hN := HN.out
     rw [HI.out] at hN ⊢
     refine ⟨SenAt.made (by nofun) (t := .nilFunc) (Blk.set HM3.out 12 (.int .i64 4)) rfl, ?_, ?_, fun h => h.2.2 rfl, hN⟩
     ·exact HA3.out.keepP (K := (· = q)) (Keep.setCell (M := (· = q)) (Keep.refl _ _) (p := ⟨q, 12, none⟩) (.inl rfl) _) (fun i hi e => nq (e ▸ hi))
     ·intro i hi
      have h9 := hfr i hi
      exact ⟨by omega, by simp; omega, fun e => nq (e ▸ hi)⟩
    ·have hle : (l.length : Int) ≤ s / 8 := by omega
     have hg := HG.out
     have hok : (PutC.mk b s typ l).ok = true := by unfold PutC.ok; simp [hg, hto, hle]
     have hI : SenM.init ⟨b, s, typ, l⟩ = ⟨⟨b, s, typ, l⟩, .tl, 0, 10⟩ := by
      unfold SenM.init PutC.e0
      rw [hok]
      simp [hg, hto, hle]
     have HI := Lib.hid hI
     have HOK := Lib.hid hok
     clear hI hg hle hok
     have hlen' : ¬ s.tdiv 8 < (sl : Int) := by have := HSL.out; omega
     have W9 : IntKind.i64.wrap (b + s + 8) = b + s + 8 := IntWalk.i64_in _ ⟨by omega, by omega⟩
     go_wp2_with fail
     refine (rCheck_any b s _ hb0 hb1 hs0 hs1).mono ?_
     rintro e w3 ⟨rfl, b3⟩
     rw [RG.out]
     have z3 := b3.size
     have HM3 := Lib.hid (show Mch w3 q accZ .nilFunc [.int .i64 b, .int .i64 s, .int .i32 typ, .slice a n c, .int .u64 0, .int .i64 10] from Blk.below HM.out b3 ltq)
     have HA3 := Lib.hid (HA.out.below b3)
     have B3 := Lib.hid (B2.out.trans (b3.mono (by omega)))
     have X3 := Lib.hid (X2.out.below b3 (by omega))
     have y0 := X3.out.cell 0
     have y1' := X3.out.cell 1
     have d12 := Blk.cell HM3.out 12
     have g12 := Blk.frozen HM3.out 12
     simp only [List.getElem?_toArray, Acc.cs, accZ, List.cons_append, List.nil_append, List.getElem?_cons_zero, List.getElem?_cons_succ] at y0 y1' d12
     have ltq3 : q < w3.heap.size := by omega
     have ltw3 : w.heap.size < w3.heap.size := by omega
     clear b3 HM HA B2 X2 x0' x1' zc
     have HW3 := Lib.hid (show SenW w3 (fun k => w.heap.size ≤ k ∧ k < w3.heap.size ∧ k ≠ q) q ⟨⟨b, s, typ, l⟩, .tl, 0, 10⟩ (.slice a n c) from ⟨HM3.out, HA3.out, fun i hi => by have h9 := hfr i hi; exact ⟨by omega, by omega, fun e => nq (e ▸ hi)⟩, fun h => h.2.2 rfl, HOK.out⟩)
     clear d12 g12
     go_wp2_with fail
     go_region_held3 (fun w' => True) (first | go_keep | trivial)
      (first
       | (go_at_call 37; refine (sEnd_any _ HW3.out.drew).mono ?_; rintro e w4 ⟨rfl, b4⟩)
       | (go_at_call 36; refine (cLoad_bd q _ _ _ (b + s + 8) 8 _ _ _ _ (HW3.out.drew.below b4).mch).mono ?_; rintro e w5 ⟨rfl, t5, m5, l5, k5⟩))
     all_goals
      have z4 := b4.size
      have z5 := k5.size
      simp at z4
      go_wp2
      go_ret
      have hN := HN.out
      have k35 : Keep (· = q) w3 w5 := ((Keep.refl _ w3).drew.trans (Below.keeps b4)).trans k5
      refine ⟨q, .slice a n c, rfl, by omega, by omega, ?_, B3.out.trans (k35.below B3.out.size (fun i hi e => by omega))⟩
      rw [HI.out] at hN ⊢
      refine ⟨SenAt.made (by nofun) (t := t5) m5 (Clo.mono l5 (fun i hi => ⟨by have h9 := hi.1; omega, hi.2, by have h9 := hi.1; omega⟩)), ?_, ?_, fun h => h.2.2 rfl, hN⟩
      ·exact HA3.out.keepP k35 (fun i hi e => nq (e ▸ hi))
      ·intro i hi
       have h9 := hfr i hi
       exact ⟨by omega, by omega, fun e => nq (e ▸ hi)⟩
  ·have hE : rgE b s = 1 := if_neg hg
   have RG := Lib.hid hE
   have hI : SenM.init ⟨b, s, typ, l⟩ = ⟨⟨b, s, typ, l⟩, .done, 0, 1⟩ := by
    have h1 : (PutC.mk b s typ l).ok = false := by unfold PutC.ok; simp [hg]
    unfold SenM.init PutC.e0
    rw [h1]
    simp [hg]
   have HI := Lib.hid hI
   clear hI hg hE
   go_wp2_with fail
   refine (rCheck_any b s _ hb0 hb1 hs0 hs1).mono ?_
   rintro e w3 ⟨rfl, b3⟩
   rw [RG.out]
   have z3 := b3.size
   have HM3 := Lib.hid (show Mch w3 q accZ .nilFunc [.int .i64 b, .int .i64 s, .int .i32 typ, .slice a n c, .int .u64 0, .int .i64 10] from Blk.below HM.out b3 ltq)
   have HA3 := Lib.hid (HA.out.below b3)
   have B3 := Lib.hid (B2.out.trans (b3.mono (by omega)))
   have X3 := Lib.hid (X2.out.below b3 (by omega))
   have y0 := X3.out.cell 0
   have y1' := X3.out.cell 1
   have d12 := Blk.cell HM3.out 12
   have g12 := Blk.frozen HM3.out 12
   simp only [List.getElem?_toArray, Acc.cs, accZ, List.cons_append, List.nil_append, List.getElem?_cons_zero, List.getElem?_cons_succ] at y0 y1' d12
   have ltq3 : q < w3.heap.size := by omega
   have ltw3 : w.heap.size < w3.heap.size := by omega
   clear b3 HM HA B2 X2 x0' x1' zc
   go_wp2
   go_ret
   refine ⟨q, .slice a n c, rfl, by omega, by simpa using ltq3, ?_, B3.out.setCell (p := ⟨q, 12, none⟩) (by show w.heap.size ≤ q; omega) _⟩
   have hN := HN.out
   rw [HI.out] at hN ⊢
   refine ⟨SenAt.made (by nofun) (t := .nilFunc) (Blk.set HM3.out 12 (.int .i64 1)) rfl, ?_, ?_, fun h => h.2.2 rfl, hN⟩
   ·exact HA3.out.keepP (K := (· = q)) (Keep.setCell (M := (· = q)) (Keep.refl _ _) (p := ⟨q, 12, none⟩) (.inl rfl) _) (fun i hi e => nq (e ▸ hi))
   ·intro i hi
    have h9 := hfr i hi
    exact ⟨by omega, by simp; omega, fun e => nq (e ▸ hi)⟩
end Go.Proofs.YtggjhleomocojaaGreat
