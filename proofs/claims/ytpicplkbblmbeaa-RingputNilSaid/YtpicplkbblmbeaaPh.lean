/- A put in memory: Take, Next, Result, At. Conditions: as each says. -/
import Derived.Test.YtpicplkbblmbeaaPg
import Derived.Test.YtpicplkbblmbeaaSb
namespace Go.Proofs.Ytpicplkbblmbeaa
set_option maxRecDepth 100000
open Go.RowKit
set_option linter.unusedVariables false
set_option linter.unusedSimpArgs false
theorem recS_bdP (a b : Int) : 0 ≤ recS a b ∧ recS a b ≤ 18446744073709551615 := by unfold recS; omega
def inU (x : Int) : Prop := 0 ≤ x ∧ x ≤ 18446744073709551615
/-- What holds where a put stands. -/
def PutM.pcOk (m : PutM) : Prop := match m.pc with
  | .done => True
  | .hd0 => True
  | .tl => True
  | .rm t => inU t
  | .rs t v => inU t ∧ inU v
  | .ph t => inU t
  | .ps t v => inU t ∧ inU v
  | .cs t pad => inU t ∧ (pad = 0 ∨ pad = m.c.s - t % m.c.s)
  | .pd t => inU t
  | .wh a => 0 ≤ a ∧ a ≤ 131072
  | .wb a p l => (0 ≤ a ∧ a ≤ 131072) ∧ (0 ≤ p ∧ p + l.length ≤ 200000) ∧ l.length ≤ 1024 ∧ IsB l ∧ l.length ≠ 0
  | .fi a => 0 ≤ a ∧ a ≤ 131072
structure PutM.fine (m : PutM) : Prop where
  b : IsB m.c.d
  ok : m.live = true → m.c.ok = true
  hd : inU m.hd
  pc : m.pcOk
theorem PutC.bd {c : PutC} (h : c.ok = true) : 64 ≤ c.s ∧ c.s ≤ 8192 ∧ 0 ≤ c.b ∧ c.b ≤ 131040 - c.s ∧ 8 ≤ c.nd ∧ c.nd ≤ 1040 ∧ c.d.length ≤ 1024 := by
  obtain ⟨h1, h2, h3⟩ := PutC.ok_bd h
  obtain ⟨a1, a2, a3, a4, a5, a6⟩ := rgOk_bd h1
  obtain ⟨b1, b2, b3⟩ := PutC.nd_bd h
  omega
theorem PutM.fine.gapped {m : PutM} (h : m.fine) (hok : m.c.ok = true) {t : Int} (ht : inU t) : (m.gapped t).fine := by
  unfold PutM.gapped
  split
  · exact ⟨h.b, fun _ => hok, h.hd, ht, .inl rfl⟩
  split
  · exact ⟨h.b, fun _ => hok, h.hd, ht, .inr rfl⟩
  · exact ⟨h.b, fun _ => hok, h.hd, ht⟩
theorem PutM.fine.step {m : PutM} (h : m.fine) (hl : m.live = true) {x : AN} (hx : inU x.v) : (m.step x).fine := by
  have hok := h.ok hl
  have hp := h.pc
  obtain ⟨b1, b2, b3, b4, b5, b6, b7⟩ := PutC.bd hok
  obtain ⟨c, pc, hd, pos, cl, e⟩ := m
  dsimp only at hok b1 b2 b3 b4 b5 b6 b7
  cases pc with
  | done => exact h
  | hd0 => exact ⟨h.b, fun _ => hok, hx, trivial⟩
  | tl =>
    simp only [PutM.step]
    split
    · exact h.gapped hok hx
    · exact ⟨h.b, fun _ => hok, h.hd, hx⟩
  | rm t =>
    simp only [PutM.step]
    split
    · exact ⟨h.b, fun _ => hok, hx, hp, hx⟩
    · exact ⟨h.b, fun _ => hok, hx, trivial⟩
  | rs t v => exact h.gapped hok hp.1
  | ph t =>
    simp only [PutM.step]
    split
    · exact ⟨h.b, fun _ => hok, hx, hp, hx⟩
    · exact ⟨h.b, fun _ => hok, hx, trivial⟩
  | ps t v => exact ⟨h.b, fun _ => hok, h.hd, hp.1, .inr rfl⟩
  | cs t pad =>
    have m1 := Int.emod_nonneg t (show c.s ≠ 0 by omega)
    have m2 := Int.emod_lt_of_pos t (show 0 < c.s by omega)
    simp only [PutM.step]
    split
    · split
      · exact ⟨h.b, fun _ => hok, h.hd, show 0 ≤ _ ∧ _ ≤ _ by omega⟩
      · exact ⟨h.b, fun _ => hok, h.hd, hp.1⟩
    · exact ⟨h.b, fun _ => hok, h.hd, trivial⟩
  | pd t => exact ⟨h.b, fun _ => hok, h.hd, show 0 ≤ c.b ∧ c.b ≤ _ by omega⟩
  | wh a =>
    have hp' : 0 ≤ a ∧ a ≤ 131072 := hp
    simp only [PutM.step]
    split
    · exact ⟨h.b, fun _ => hok, h.hd, hp'⟩
    · exact ⟨h.b, fun _ => hok, h.hd, hp', by omega, by omega, h.b, by assumption⟩
  | wb a p l =>
    obtain ⟨q1, q2, q3, q4, q5⟩ := hp
    simp only [PutM.step]
    split
    · exact ⟨h.b, fun _ => hok, h.hd, q1⟩
    · refine ⟨h.b, fun _ => hok, h.hd, q1, ?_, ?_, q4.drop 8, ?_⟩ <;> simp <;> omega
  | fi a => exact ⟨h.b, fun _ => hok, h.hd, trivial⟩
theorem PutM.fine.wf {m : PutM} (h : m.fine) : m.want.wf := by
  have hp := h.pc
  by_cases hl : m.live = true
  · have hok := h.ok hl
    obtain ⟨b1, b2, b3, b4, b5, b6, b7⟩ := PutC.bd hok
    have u0 : inU 0 := ⟨by omega, by omega⟩
    have ub := fun x => u64_bdP x
    have ur := fun x y => recS_bdP x y
    obtain ⟨c, pc, hd, pos, cl, e⟩ := m
    dsimp only at hok b1 b2 b3 b4 b5 b6 b7
    cases pc with
    | done => cases hl
    | hd0 => exact ⟨IsB.nil, by simp [PutM.want], u0.1, u0.2, u0.1, u0.2⟩
    | tl => exact ⟨IsB.nil, by simp [PutM.want], u0.1, u0.2, u0.1, u0.2⟩
    | rm t => exact ⟨IsB.nil, by simp [PutM.want], u0.1, u0.2, u0.1, u0.2⟩
    | rs t v => exact ⟨IsB.nil, by simp [PutM.want], hp.2.1, hp.2.2, u0.1, u0.2⟩
    | ph t => exact ⟨IsB.nil, by simp [PutM.want], u0.1, u0.2, u0.1, u0.2⟩
    | ps t v => exact ⟨IsB.nil, by simp [PutM.want], hp.2.1, hp.2.2, u0.1, u0.2⟩
    | cs t pad => exact ⟨IsB.nil, by simp [PutM.want], hp.1.1, hp.1.2, (ub _).1, (ub _).2⟩
    | pd t => exact ⟨IsB.nil, by simp [PutM.want], (ur _ _).1, (ur _ _).2, u0.1, u0.2⟩
    | wh a => exact ⟨IsB.nil, by simp [PutM.want], (ur _ _).1, (ur _ _).2, u0.1, u0.2⟩
    | wb a p l => exact ⟨hp.2.2.2.1.take 8, by simp [PutM.want]; omega, u0.1, u0.2, u0.1, u0.2⟩
    | fi a =>
      have : 8 ≤ c.n ∧ c.n ≤ 1040 := by unfold PutC.n; omega
      exact ⟨IsB.nil, by simp [PutM.want], show 0 ≤ c.n by omega, show c.n ≤ _ by omega, u0.1, u0.2⟩
  · have e : m.want = aaZ := by
      unfold PutM.live at hl
      unfold PutM.want
      split at hl
      · rename_i h; rw [h]
      · exact absurd rfl hl
    rw [e]
    exact ⟨IsB.nil, by simp [aaZ], by decide, by decide, by decide, by decide⟩
/-- A put at block q, whatever it does. -/
structure PutI (w : World) (O : Nat → Prop) (q : Nat) (m : PutM) (bv : Value) : Prop where
  at_ : PutAt w O q m bv
  rd : RdB w bv m.c.d
  ob : ∀ i, bv.ownBlock = some i → O i
  nq : ¬ O q
  fine : m.fine
theorem RdB.keepP {w w' : World} {K : Nat → Prop} {v : Value} {l : List Int} (h : RdB w v l) (k : Keep K w w') (hd : ∀ i, v.ownBlock = some i → ¬ K i) : RdB w' v l := by
  rcases h with h | h | ⟨b, off, cap, e1, e2, e3, e4⟩
  · exact .inl h
  · exact .inr (.inl h)
  · refine .inr <| .inr ⟨b, off, cap, e1, e2, e3, fun i hi => ?_⟩
    have hc := e4 i hi
    exact (k.cell _ (World.block_lt_of_cell? w _ hc) (hd b (by rw [e1]; rfl))).trans hc
theorem PutI.w {w w1 : World} {O : Nat → Prop} {q : Nat} {m : PutM} {bv : Value} (h : PutI w O q m bv) (hl : m.live = true) (m1 : Mch w1 q accZ .nilFunc (m.rest bv)) (k1 : Keep (· = q) w w1) : PutW w1 O q m bv :=
  ⟨m1, h.rd.keepP k1 (fun i hi e => h.nq (e ▸ h.ob i hi)), h.ob, h.nq, h.fine.ok hl⟩
set_option maxHeartbeats 2000000 in
/-- Take, where something is wanted. -/
theorem pcTake_any {O : Nat → Prop} {q : Nat} {m : PutM} {bv : Value} (v : Int) (d : Bool) (bs : List Int) (s0 : Option Addr) (sl sc : Nat) (w : World) (h : PutI w O q m bv) (hl : m.live = true) :
    Calls Try.prog 73 #[.pointer (some ⟨q, 0, none⟩), .agg #[.int .u64 v, .bool d, .slice s0 sl sc]] w fun e w' => e = .returned (.tuple #[]) ∧ PutTo w O q (m.step ⟨v, d, bs⟩) bv w' := by
  have hW := fun w1 => h.w (w1 := w1) hl
  have nq := h.nq
  have hA := h.at_
  have hF := h.fine.pc
  have hok := h.fine.ok hl
  obtain ⟨b1, b2, b3, b4, b5, b6, b7⟩ := PutC.bd hok
  clear h
  have nqb : ∀ b, O b → b ≠ q := fun b hb e => nq (e ▸ hb)
  obtain ⟨c, pc, hd, pos, cl, e⟩ := m
  dsimp only at hok b1 b2 b3 b4 b5 b6 b7
  cases pc with
  | done => cases hl
  | hd0 =>
    obtain ⟨t, hm, v1, c1, c2⟩ := hA
    obtain ⟨pb, rfl, hp, op⟩ := c2.c1
    refine takeLoad O q _ t _ _ _ v d s0 sl sc w hm c1 nq enNewK _ (fun w1 m1 k1 => ?_)
    refine (pNewK_any v pb w1 (hW w1 m1 k1) (hp.keep k1 (nqb pb op)) op).mono ?_
    rintro e w' ⟨rfl, hto⟩
    exact ⟨rfl, hto.after k1⟩
  | tl =>
    obtain ⟨t, hm, v1, c1, c2⟩ := hA
    obtain ⟨pb, rfl, hp, op⟩ := c2.c1
    refine takeLoad O q _ t _ _ _ v d s0 sl sc w hm c1 nq enTailK _ (fun w1 m1 k1 => ?_)
    refine (pTailK_any v pb w1 (hW w1 m1 k1) (hp.keep k1 (nqb pb op)) op).mono ?_
    rintro e w' ⟨rfl, hto⟩
    refine ⟨rfl, ?_⟩
    have e2 : PutM.step ⟨c, .tl, hd, pos, cl, e⟩ ⟨v, d, bs⟩ = PutM.tailed ⟨c, .tl, hd, pos, cl, e⟩ v := rfl
    rw [e2]
    exact hto.after k1
  | rm x =>
    obtain ⟨t, hm, v1, ve, vt, c1, c2, c3, c4⟩ := hA
    obtain ⟨pb, eb, tb, rfl, ⟨hp, op⟩, ⟨he, oe⟩, ht, ot⟩ := c2.c3
    obtain ⟨b1', b2', rfl, ⟨he1, oe1⟩, he2, oe2⟩ := c3.c2
    obtain ⟨bt, ⟨rfl, ht4⟩⟩ := c4
    refine takeLoad O q _ t _ _ _ v d s0 sl sc w hm c1 nq enLookK _ (fun w1 m1 k1 => ?_)
    have hW1 := hW w1 m1 k1
    refine (pLookK_any v 111 113 _ _ (({ (⟨c, .rm x, hd, pos, cl, e⟩ : PutM) with hd := v } : PutM).fit x) pb eb tb w1 hW1 enRoom (hp.keep k1 (nqb pb op)) (he.keep k1 (nqb eb oe)) (ht.keep k1 (nqb tb ot)) ⟨nqb _ op, nqb _ oe, nqb _ ot⟩ (fun w2 h2 k2 => pRoom_any x b1' b2' w2 h2 (he1.keep (k1.trans k2) (nqb _ oe1)) (he2.keep (k1.trans k2) (nqb _ oe2)))).mono ?_
    rintro e2 w' ⟨rfl, k2, hy, hn⟩
    refine ⟨rfl, ?_⟩
    have z1 := k1.size
    by_cases hf : (({ (⟨c, .rm x, hd, pos, cl, e⟩ : PutM) with hd := v } : PutM).fit x) = true
    · obtain ⟨t', m', c'⟩ := hy hf
      have e3 : PutM.step ⟨c, .rm x, hd, pos, cl, e⟩ ⟨v, d, bs⟩ = ⟨c, .rs x v, v, pos, cl, e⟩ := if_pos hf
      rw [e3]
      refine ⟨PutAt.made (by nofun) m' ⟨_, c'.mono (fun i hi => .inr ⟨by omega, hi.2⟩), ?_⟩, k1.trans k2⟩
      exact (Clo.keep (f := 113) (xs := [ptr q, .int .u64 x]) ⟨bt, rfl, ht4⟩ (k1.trans k2) (fun i hi => nqb i hi)).mono (fun i hi => .inl hi)
    · have e3 : PutM.step ⟨c, .rm x, hd, pos, cl, e⟩ ⟨v, d, bs⟩ = ⟨c, .done, v, pos, cl, 5⟩ := if_neg hf
      rw [e3]
      exact ⟨PutAt.made (by nofun) (hn (by simpa using hf)) rfl, k1.trans k2⟩
  | rs x y =>
    obtain ⟨t, hm, vt, c1, c2⟩ := hA
    obtain ⟨pb, tb, rfl, ⟨hp, op⟩, ht, ot⟩ := c2.c2
    refine takeStore O q _ t _ _ _ v d s0 sl sc w hm c1 nq enGap _ (fun w1 m1 k1 => ?_)
    refine (pGap_any x pb tb w1 (hW w1 m1 k1) (hp.keep k1 (nqb pb op)) (ht.keep k1 (nqb tb ot)) op ot).mono ?_
    rintro e2 w' ⟨rfl, hto⟩
    exact ⟨rfl, hto.after k1⟩
  | ph x =>
    obtain ⟨t, hm, v1, ve, vt, c1, c2, c3, c4⟩ := hA
    obtain ⟨pb, eb, tb, rfl, ⟨hp, op⟩, ⟨he, oe⟩, ht, ot⟩ := c2.c3
    obtain ⟨b1', rfl, he1, oe1⟩ := c3.c1
    obtain ⟨bt, ⟨rfl, ht4⟩⟩ := c4
    refine takeLoad O q _ t _ _ _ v d s0 sl sc w hm c1 nq enLookK _ (fun w1 m1 k1 => ?_)
    have hW1 := hW w1 m1 k1
    refine (pLookK_any v 116 117 _ _ (decide (c.nd ≤ v % c.s)) pb eb tb w1 hW1 enRoom2 (hp.keep k1 (nqb pb op)) (he.keep k1 (nqb eb oe)) (ht.keep k1 (nqb tb ot)) ⟨nqb _ op, nqb _ oe, nqb _ ot⟩ (fun w2 h2 k2 => pRoom2_any b1' w2 h2 (he1.keep (k1.trans k2) (nqb _ oe1)))).mono ?_
    rintro e2 w' ⟨rfl, k2, hy, hn⟩
    refine ⟨rfl, ?_⟩
    have z1 := k1.size
    by_cases hf : c.nd ≤ v % c.s
    · obtain ⟨t', m', c'⟩ := hy (decide_eq_true hf)
      have e3 : PutM.step ⟨c, .ph x, hd, pos, cl, e⟩ ⟨v, d, bs⟩ = ⟨c, .ps x v, v, pos, cl, e⟩ := if_pos hf
      rw [e3]
      refine ⟨PutAt.made (by nofun) m' ⟨_, c'.mono (fun i hi => .inr ⟨by omega, hi.2⟩), ?_⟩, k1.trans k2⟩
      exact (Clo.keep (f := 117) (xs := [ptr q, .int .u64 x, .int .i64 (c.s - x % c.s)]) ⟨bt, rfl, ht4⟩ (k1.trans k2) (fun i hi => nqb i hi)).mono (fun i hi => .inl hi)
    · have e3 : PutM.step ⟨c, .ph x, hd, pos, cl, e⟩ ⟨v, d, bs⟩ = ⟨c, .done, v, pos, cl, 5⟩ := if_neg hf
      rw [e3]
      exact ⟨PutAt.made (by nofun) (hn (decide_eq_false hf)) rfl, k1.trans k2⟩
  | ps x y =>
    have m1 := Int.emod_nonneg x (show c.s ≠ 0 by omega)
    have m2 := Int.emod_lt_of_pos x (show 0 < c.s by omega)
    obtain ⟨t, hm, vt, c1, c2⟩ := hA
    obtain ⟨pb, tb, gb, rfl, ⟨hp, op⟩, ⟨ht, ot⟩, hg, og⟩ := c2.c3
    refine takeStore O q _ t _ _ _ v d s0 sl sc w hm c1 nq enGap2 _ (fun w1 m1 k1 => ?_)
    refine (pGap2_any x _ pb tb gb w1 (hW w1 m1 k1) (hp.keep k1 (nqb pb op)) (ht.keep k1 (nqb tb ot)) (hg.keep k1 (nqb gb og)) (by dsimp only; omega) (by dsimp only; omega)).mono ?_
    rintro e2 w' ⟨rfl, hto⟩
    exact ⟨rfl, hto.after k1⟩
  | cs x pad =>
    obtain ⟨t, hm, v1, c1, c2⟩ := hA
    obtain ⟨pb, tb, gb, rfl, ⟨hp, op⟩, ⟨ht, ot⟩, hg, og⟩ := c2.c3
    refine takeCas O q _ t _ _ _ v d s0 sl sc w hm c1 nq enClaimK _ (fun w1 m1 k1 => ?_)
    refine (pClaimK_any d x pad pb tb gb w1 (hW w1 m1 k1) (hp.keep k1 (nqb pb op)) (ht.keep k1 (nqb tb ot)) (hg.keep k1 (nqb gb og)) op ot og hF.2).mono ?_
    rintro e2 w' ⟨rfl, hto⟩
    refine ⟨rfl, ?_⟩
    have e3 : PutM.step ⟨c, .cs x pad, hd, pos, cl, e⟩ ⟨v, d, bs⟩ = if d then PutM.claimed ⟨c, .cs x pad, hd, pos, cl, e⟩ x pad else ⟨c, .tl, hd, pos, cl, e⟩ := rfl
    rw [e3]
    exact hto.after k1
  | pd x =>
    obtain ⟨t, hm, v1, c1, c2⟩ := hA
    obtain ⟨pb, rfl, hp, op⟩ := c2.c1
    refine takeStore O q _ t _ _ _ v d s0 sl sc w hm c1 nq enClaimK1 _ (fun w1 m1 k1 => ?_)
    refine (pClaimP_any pb w1 (hW w1 m1 k1) (hp.keep k1 (nqb pb op)) (nqb pb op)).mono ?_
    rintro e2 w' ⟨rfl, hto⟩
    exact ⟨rfl, hto.after k1⟩
  | wh a =>
    obtain ⟨t, hm, v1, c1, c2⟩ := hA
    obtain ⟨pb, ab, nb, rfl, ⟨hp, op⟩, ⟨ha, oa⟩, hn, on⟩ := c2.c3
    refine takeStore O q _ t _ _ _ v d s0 sl sc w hm c1 nq enWrite _ (fun w1 m1 k1 => ?_)
    refine (pWriteK_any a pb ab nb w1 (hW w1 m1 k1) (hp.keep k1 (nqb pb op)) (ha.keep k1 (nqb ab oa)) (hn.keep k1 (nqb nb on)) op oa on hF.1 hF.2).mono ?_
    rintro e2 w' ⟨rfl, hto⟩
    exact ⟨rfl, hto.after k1⟩
  | wb a p l =>
    obtain ⟨f0, hin, c2⟩ := hA
    obtain ⟨pb, ab, nb, rfl, ⟨hp, op⟩, ⟨ha, oa⟩, hn, on⟩ := c2.c3
    obtain ⟨q1, q2, q3, q4, q5⟩ := hF
    by_cases h8 : 8 < l.length
    · refine (inTake_more O q p l _ _ _ v d s0 sl sc w hin nq h8 (by omega) (by omega) (by omega)).mono ?_
      rintro e2 w' ⟨rfl, hin', k'⟩
      refine ⟨rfl, ?_⟩
      have e3 : PutM.step ⟨c, .wb a p l, hd, pos, cl, e⟩ ⟨v, d, bs⟩ = ⟨c, .wb a (p + 8) (l.drop 8), hd, pos, cl, e⟩ := if_neg (by omega)
      rw [e3]
      exact ⟨⟨_, hin', Clo.mk3 (hp.keep k' (nqb pb op)) (.inl op) (ha.keep k' (nqb ab oa)) (.inl oa) (hn.keep k' (nqb nb on)) (.inl on)⟩, k'⟩
    · refine (inTake_last O q p l _ _ _ v d s0 sl sc w hin nq (by omega) (by omega) (by omega) (enWrite1 _) (fun w' => PutTo w O q (PutM.step ⟨c, .wb a p l, hd, pos, cl, e⟩ ⟨v, d, bs⟩) bv w') (· = q) rfl (fun i hi => nqb i hi) (fun w1 m1 k1 => ?_)).mono ?_
      · refine (pWrite1_any a pb ab nb w1 (hW w1 m1 k1) (hp.keep k1 (nqb pb op)) (ha.keep k1 (nqb ab oa)) (hn.keep k1 (nqb nb on)) op oa on).mono ?_
        rintro e2 w' ⟨rfl, hto⟩
        have e3 : PutM.step ⟨c, .wb a p l, hd, pos, cl, e⟩ ⟨v, d, bs⟩ = ⟨c, .fi a, hd, pos, cl, e⟩ := if_pos (by omega)
        rw [e3]
        exact ⟨rfl, hto.after k1, hto.2⟩
      · rintro e2 w' ⟨rfl, hto, k'⟩
        exact ⟨rfl, hto⟩
  | fi a =>
    obtain ⟨t, hm, v1, c1, c2⟩ := hA
    obtain ⟨pb, rfl, hp, op⟩ := c2.c1
    refine takeStore O q _ t _ _ _ v d s0 sl sc w hm c1 nq enWrite2 _ (fun w1 m1 k1 => ?_)
    refine (pWrite2_any pb w1 (hW w1 m1 k1) (hp.keep k1 (nqb pb op))).mono ?_
    rintro e2 w' ⟨rfl, hto⟩
    exact ⟨rfl, hto.after k1⟩
end Go.Proofs.Ytpicplkbblmbeaa
