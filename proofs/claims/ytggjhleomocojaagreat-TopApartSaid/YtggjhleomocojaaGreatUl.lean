/- A fix in memory: its closures; New, Next, Take, Result; fixes as a family of machines. Conditions: as each says. -/
import Derived.Test.YtggjhleomocojaaGreatUa
import Derived.Test.YtggjhleomocojaaGreatKe
import Derived.Test.YtggjhleomocojaaGreatQb
import Derived.Test.YtggjhleomocojaaGreatDd
import Derived.Deep.RegionHeld3
import Derived.Test.YtggjhleomocojaaGreatDs
import Derived.Test.YtggjhleomocojaaGreatVs
namespace Go.Proofs.YtggjhleomocojaaGreat
set_option maxRecDepth 100000
open Go.RowKit
set_option linter.unusedVariables false
set_option linter.unusedSimpArgs false
def FixM.rest (m : FixM) : List Value := [.int .i64 m.c.b, .int .i64 m.c.s, .int .i64 m.first, .int .i64 m.last, .int .i64 m.n, .int .i64 m.e]
def FixM.looked (m : FixM) (v : Int) : FixM := if 0 < loS v ∨ loS v < -(m.c.s - m.first) then m.stop else if loS v < 0 then { m with pc := .pd (-loS v) } else m.ahead (m.first + 8)
def FixM.pcOk (m : FixM) : Prop := match m.pc with
 | .done => True
 | .h0 => True
 | .t0 h => inU h
 | .lk => 0 ≤ m.first ∧ m.first < m.last ∧ m.last ≤ m.c.s
 | .ah a => (0 ≤ m.first ∧ m.first < m.last ∧ m.last ≤ m.c.s) ∧ m.first < a ∧ a < m.last
 | .bk a g => (0 ≤ m.first ∧ m.first < m.last ∧ m.last ≤ m.c.s) ∧ m.first ≤ a ∧ a < g ∧ g < m.last
 | .pd n => (0 ≤ m.first ∧ m.first < m.last ∧ m.last ≤ m.c.s) ∧ 0 < n ∧ n ≤ m.c.s - m.first
structure FixM.fine (m : FixM) : Prop where
 ok : m.live = true → rgOk m.c.b m.c.s = true
 pc : m.pcOk
end Go.Proofs.YtggjhleomocojaaGreat
namespace Go.Proofs.YtggjhleomocojaaGreat
set_option maxRecDepth 100000
open Go.RowKit
set_option linter.unusedVariables false
set_option linter.unusedSimpArgs false
structure MenT where
 b : Int
 s : Int
 times : Int
 sum : Int
def MenT.mo (t : MenT) : Option FixM × MenT := if t.times < 1 then (none, t) else (some (FixC.init ⟨t.b, t.s⟩), { t with times := t.times - 1 })
end Go.Proofs.YtggjhleomocojaaGreat
namespace Go.Proofs.YtggjhleomocojaaGreat
open Go.RowKit
set_option linter.unusedVariables false
def Mac.Sum (M N : Mac) : Mac := ⟨M.σ ⊕ N.σ, fun s => match s with | .inl x => M.live x | .inr x => N.live x, fun s => match s with | .inl x => M.want x | .inr x => N.want x, fun s a => match s with | .inl x => .inl (M.step x a) | .inr x => .inr (N.step x a)⟩
end Go.Proofs.YtggjhleomocojaaGreat
namespace Go.Proofs.YtggjhleomocojaaGreat
open Go.RowKit
set_option linter.unusedVariables false
set_option linter.unusedSimpArgs false
structure Same (lo hi : Nat) (xs ys : List Int) : Prop where
 len : xs.length = ys.length
 at_ : ∀ a, lo ≤ a → a < hi → gB xs a = gB ys a
variable {lo hi : Nat} {xs ys : List Int}
theorem Same.cut (h : Same lo hi xs ys) {a n : Nat} (h0 : lo ≤ a) (h1 : a + n ≤ hi) (hn : a + n ≤ xs.length) : bts xs a n = bts ys a n := by
 have hl := h.len
 refine gB_ext (by rw [bts_len hn, bts_len (by omega)]) (fun i hi => ?_)
 rw [bts_len hn] at hi
 rw [bts_at hi, bts_at hi]
 exact h.at_ _ (by omega) (by omega)
theorem Same.wr (h : Same lo hi xs ys) {a : Nat} {ms : List Int} (hn : a + ms.length ≤ xs.length) : Same lo hi (spl xs a ms) (spl ys a ms) := by
 have hl := h.len
 refine ⟨by rw [spl_len _ _ _ hn, spl_len _ _ _ (by omega), hl], fun k h0 h1 => ?_⟩
 by_cases c1 : k < a
 ·rw [spl_lt _ _ _ hn _ c1, spl_lt _ _ _ (by omega) _ c1]
  exact h.at_ k h0 h1
 ·by_cases c2 : k < a + ms.length
  ·rw [spl_in _ _ _ hn _ (by omega) c2, spl_in _ _ _ (by omega) _ (by omega) c2]
  ·rw [spl_ge _ _ _ hn _ (by omega), spl_ge _ _ _ (by omega) _ (by omega)]
   exact h.at_ k h0 h1
theorem Same.far (h : Same lo hi xs ys) {a : Nat} {ms : List Int} (hn : a + ms.length ≤ xs.length) (hd : hi ≤ a ∨ a + ms.length ≤ lo) : Same lo hi (spl xs a ms) ys := by
 refine ⟨by rw [spl_len _ _ _ hn, h.len], fun k h0 h1 => ?_⟩
 by_cases c1 : k < a
 ·rw [spl_lt _ _ _ hn _ c1]
  exact h.at_ k h0 h1
 ·rw [spl_ge _ _ _ hn _ (by omega)]
  exact h.at_ k h0 h1
theorem acSized_6 {n l : Int} (h : acSized 6 n l = true) : n = l := by
 unfold acSized at h
 simp at h
 omega
theorem Same.acc (h : Same lo hi xs ys) {c : AA} (he : c.err xs.length = 0) (hk : c.k ≠ 3) (h0 : (lo : Int) ≤ c.a) (h1 : c.a + c.n ≤ hi) : c.err ys.length = 0 ∧ c.ans xs = c.ans ys ∧ Same lo hi (c.out xs) (c.out ys) := by
 have hl := h.len
 obtain ⟨hz, z0, z1, z2, z3, z4, z5⟩ := acE_ok he (by omega)
 have e2 : (xs.drop c.a.toNat).take c.n.toNat = (ys.drop c.a.toNat).take c.n.toNat := h.cut (by omega) (by omega) (by omega)
 have e1 : rdN xs c.a.toNat c.n.toNat = rdN ys c.a.toNat c.n.toNat := by
  unfold rdN
  rw [e2]
 refine ⟨by rw [← hl]; exact he, ?_, ?_⟩
 ·unfold AA.ans doV doD doR
  rw [e1, e2, if_neg hk, if_neg hk]
 ·unfold AA.out doB
  rw [e1, if_neg hk, if_neg hk]
  by_cases k2 : c.k = 2
  ·rw [if_pos k2, if_pos k2]
   exact h.wr (by rw [leB_length]; omega)
  ·rw [if_neg k2, if_neg k2]
   by_cases k4 : c.k = 4
   ·rw [if_pos k4, if_pos k4]
    split
    ·exact h.wr (by rw [leB_length]; omega)
    ·exact h
   ·rw [if_neg k4, if_neg k4]
    by_cases k6 : c.k = 6
    ·rw [if_pos k6, if_pos k6]
     rw [k6] at hz
     have := acSized_6 hz
     exact h.wr (by omega)
    ·rw [if_neg k6, if_neg k6]
     exact h
theorem Same.acc_far (h : Same lo hi xs ys) {c : AA} (he : c.err xs.length = 0) (hk : c.k ≠ 3) (h0 : (hi : Int) ≤ c.a ∨ c.a + c.n ≤ lo) : Same lo hi (c.out xs) ys := by
 have hl := h.len
 obtain ⟨hz, z0, z1, z2, z3, z4, z5⟩ := acE_ok he (by omega)
 unfold AA.out doB
 rw [if_neg hk]
 by_cases k2 : c.k = 2
 ·rw [if_pos k2]
  exact h.far (by rw [leB_length]; omega) (by rw [leB_length]; omega)
 ·rw [if_neg k2]
  by_cases k4 : c.k = 4
  ·rw [if_pos k4]
   split
   ·exact h.far (by rw [leB_length]; omega) (by rw [leB_length]; omega)
   ·exact h
  ·rw [if_neg k4]
   by_cases k6 : c.k = 6
   ·rw [if_pos k6]
    rw [k6] at hz
    have := acSized_6 hz
    exact h.far (by omega) (by omega)
   ·rw [if_neg k6]
    exact h
structure Local (M : Mac) (Lc : M.σ → Prop) (lo hi : Nat) : Prop where
 wf : ∀ s, Lc s → (M.want s).wf
 at_ : ∀ s (N : Nat), Lc s → (M.want s).err N = 0 → (M.want s).k ≠ 3 ∧ (lo : Int) ≤ (M.want s).a ∧ (M.want s).a + (M.want s).n ≤ hi
 step : ∀ s x, Lc s → AN.ok (M.want s) x → Lc (M.step s x)
structure Agree (M : Mac) (Lc Lo : M.σ → Prop) (lo hi : Nat) (I : Nat → Prop) (b1 b2 : List Int) (a1 a2 : List (Ac M.σ)) : Prop where
 bs : Same lo hi b1 b2
 isb : IsB b1
 len : a1.length = a2.length
 inn : ∀ i, I i → a1[i]? = a2[i]?
 loc : ∀ i s d, I i → a1[i]? = some ⟨some s, d⟩ → Lc s
 out : ∀ i a, ¬ I i → a2[i]? = some a → a.m = none
 oth : ∀ i s d, ¬ I i → a1[i]? = some ⟨some s, d⟩ → Lo s
theorem pick_eq (M : Mac) (S : SW M.σ) (j : Nat) : (M.pick S 0 j 0).1 = (match S.acts[j]? with
  | none => S
  | some c => if c.dead = true then S else if (M.stepA S j c).2.2 = 0 then { (M.stepA S j c).1 with tr := (M.stepA S j c).1.tr ++ [⟨0, j, 0, (M.stepA S j c).2.1.1, (M.stepA S j c).2.1.2⟩] } else (M.stepA S j c).1) := by
 unfold Mac.pick
 rw [if_neg (by decide), if_pos (.inl rfl)]
 have ha : M.act S 0 (j : Int) = (match S.acts[j]? with | none => (S, (aaZ, anZ), 2) | some c => if c.dead = true then (S, (aaZ, anZ), 11) else M.stepA S j c) := by
  unfold Mac.act
  rw [if_neg (by omega), Int.toNat_natCast]
  cases S.acts[j]? with
  | none => rfl
  | some c =>
   dsimp only
   rw [if_neg (show ¬ (0 : Int) = 1 by decide)]
 rw [ha]
 cases S.acts[j]? with
 | none => rfl
 | some c =>
  dsimp only
  by_cases hd : c.dead = true
  ·simp only [if_pos hd]
   rfl
  ·simp only [if_neg hd]
   split <;> rfl
theorem out_isB {c : AA} {bs : List Int} (hb : IsB bs) (hc : c.wf) : IsB (c.out bs) := by
 unfold AA.out doB
 split
 ·exact spl_is hb (leB_is _ _)
 ·split
  ·exact spl_is hb (leB_is _ _)
  ·split
   ·split
    ·exact spl_is hb (leB_is _ _)
    ·exact hb
   ·split
    ·exact spl_is hb hc.b
    ·exact hb
variable {M : Mac} {I : Nat → Prop}
theorem Agree.both {Lc Lo : M.σ → Prop} {b1 b2 b1' b2' : List Int} {a1 a2 : List (Ac M.σ)} (h : Agree M Lc Lo lo hi I b1 b2 a1 a2) {j : Nat} (hj : I j) (a : Ac M.σ) (ha : ∀ s d, a = ⟨some s, d⟩ → Lc s) (hb : Same lo hi b1' b2') (hi' : IsB b1') : Agree M Lc Lo lo hi I b1' b2' (a1.set j a) (a2.set j a) := by
 refine ⟨hb, hi', by simp [h.len], fun i hI => ?_, fun i s d hI e => ?_, fun i a' hI e => ?_, fun i s d hI e => ?_⟩
 ·by_cases e : j = i
  ·subst e
   rw [List.getElem?_set, List.getElem?_set, h.len, if_pos rfl, if_pos rfl]
  ·rw [List.getElem?_set_ne e, List.getElem?_set_ne e]
   exact h.inn i hI
 ·by_cases e1 : j = i
  ·subst e1
   rw [List.getElem?_set] at e
   simp at e
   exact ha s d e.2
  ·rw [List.getElem?_set_ne e1] at e
   exact h.loc i s d hI e
 ·have e1 : j ≠ i := fun e => hI (e ▸ hj)
  rw [List.getElem?_set_ne e1] at e
  exact h.out i a' hI e
 ·have e1 : j ≠ i := fun e => hI (e ▸ hj)
  rw [List.getElem?_set_ne e1] at e
  exact h.oth i s d hI e
theorem Agree.one {Lc Lo : M.σ → Prop} {b1 b2 b1' : List Int} {a1 a2 : List (Ac M.σ)} (h : Agree M Lc Lo lo hi I b1 b2 a1 a2) {j : Nat} (hj : ¬ I j) (a : Ac M.σ) (ha : ∀ s d, a = ⟨some s, d⟩ → Lo s) (hb : Same lo hi b1' b2) (hi' : IsB b1') : Agree M Lc Lo lo hi I b1' b2 (a1.set j a) a2 := by
 refine ⟨hb, hi', by simp [h.len], fun i hI => ?_, fun i s d hI e => ?_, h.out, fun i s d hI e => ?_⟩
 ·have e1 : j ≠ i := fun e => hj (e ▸ hI)
  rw [List.getElem?_set_ne e1]
  exact h.inn i hI
 ·have e1 : j ≠ i := fun e => hj (e ▸ hI)
  rw [List.getElem?_set_ne e1] at e
  exact h.loc i s d hI e
 ·by_cases e1 : j = i
  ·subst e1
   rw [List.getElem?_set] at e
   simp at e
   exact ha s d e.2
  ·rw [List.getElem?_set_ne e1] at e
   exact h.oth i s d hI e
theorem Agree.pick {Lc Lo : M.σ → Prop} {lo hi lo' hi' : Nat} {S1 S2 : SW M.σ} (hL : Local M Lc lo hi) (hO : Local M Lo lo' hi') (hd : hi ≤ lo' ∨ hi' ≤ lo) (h : Agree M Lc Lo lo hi I S1.bs S2.bs S1.acts S2.acts) (j : Nat) : Agree M Lc Lo lo hi I (M.pick S1 0 j 0).1.bs (M.pick S2 0 j 0).1.bs (M.pick S1 0 j 0).1.acts (M.pick S2 0 j 0).1.acts := by
 rw [pick_eq, pick_eq]
 cases h1 : S1.acts[j]? with
 | none =>
  have h2 : S2.acts[j]? = none := by
   rw [List.getElem?_eq_none_iff] at h1 ⊢
   rw [← h.len]
   exact h1
  rw [h2]
  exact h
 | some c =>
  dsimp only
  by_cases hj : I j
  ·have h2 : S2.acts[j]? = some c := by rw [← h.inn j hj, h1]
   rw [h2]
   dsimp only
   by_cases hdd : c.dead = true
   ·rw [if_pos hdd, if_pos hdd]
    exact h
   ·rw [if_neg hdd, if_neg hdd]
    obtain ⟨m, d⟩ := c
    cases m with
    | none =>
     rw [show M.stepA S1 j ⟨none, d⟩ = (S1, (aaZ, anZ), 0) from rfl, show M.stepA S2 j ⟨none, d⟩ = (S2, (aaZ, anZ), 0) from rfl]
     exact h
    | some s =>
     have hs := h.loc j s d hj h1
     by_cases hl : M.live s = false
     ·rw [show M.stepA S1 j ⟨some s, d⟩ = (S1, (aaZ, anZ), 0) from if_pos hl, show M.stepA S2 j ⟨some s, d⟩ = (S2, (aaZ, anZ), 0) from if_pos hl]
      exact h
     ·have hl' : M.live s = true := by simpa using hl
      by_cases he : (M.want s).err S1.bs.length = 0
      ·obtain ⟨l1, l2, l3⟩ := hL.at_ s _ hs he
       obtain ⟨e1, e2, e3⟩ := h.bs.acc he l1 l2 l3
       have q1 : M.stepA S1 j ⟨some s, d⟩ = ({ S1 with bs := (M.want s).out S1.bs, cnt := S1.cnt + 1, acts := S1.acts.set j ⟨some (M.step s ((M.want s).ans S1.bs)), d⟩ }, (M.want s, (M.want s).ans S1.bs), 0) := (if_neg hl).trans (if_pos he)
       have q2 : M.stepA S2 j ⟨some s, d⟩ = ({ S2 with bs := (M.want s).out S2.bs, cnt := S2.cnt + 1, acts := S2.acts.set j ⟨some (M.step s ((M.want s).ans S2.bs)), d⟩ }, (M.want s, (M.want s).ans S2.bs), 0) := (if_neg hl).trans (if_pos e1)
       rw [q1, q2, if_pos rfl, if_pos rfl, ← e2]
       exact h.both hj _ (fun s' d' e => by cases e; exact hL.step s _ hs (AA.ans_ok h.isb he)) e3 (out_isB h.isb (hL.wf s hs))
      ·have e1 : ¬ (M.want s).err S2.bs.length = 0 := by rw [← h.bs.len]; exact he
       have q1 : M.stepA S1 j ⟨some s, d⟩ = ({ S1 with acts := S1.acts.set j ⟨some s, true⟩ }, (aaZ, anZ), (M.want s).err S1.bs.length) := (if_neg hl).trans (if_neg he)
       have q2 : M.stepA S2 j ⟨some s, d⟩ = ({ S2 with acts := S2.acts.set j ⟨some s, true⟩ }, (aaZ, anZ), (M.want s).err S2.bs.length) := (if_neg hl).trans (if_neg e1)
       rw [q1, q2, if_neg he, if_neg e1]
       exact h.both hj _ (fun s' d' e => by cases e; exact hs) h.bs h.isb
  ·cases h2 : S2.acts[j]? with
   | none =>
    have := (List.getElem?_eq_some_iff.1 h1).1
    rw [List.getElem?_eq_none_iff] at h2
    rw [h.len] at this
    omega
   | some c2 =>
    have hm := h.out j c2 hj h2
    obtain ⟨m2, d2⟩ := c2
    have hm : m2 = none := hm
    subst hm
    have hS2 : ∀ T : SW M.σ, (T = S2 ∨ ∃ t, T = { S2 with tr := t }) → T.bs = S2.bs ∧ T.acts = S2.acts := by
     rintro T (rfl | ⟨t, rfl⟩) <;> exact ⟨rfl, rfl⟩
    obtain ⟨r1, r2⟩ := hS2 (if (⟨none, d2⟩ : Ac M.σ).dead = true then S2 else if (M.stepA S2 j ⟨none, d2⟩).2.2 = 0 then { (M.stepA S2 j ⟨none, d2⟩).1 with tr := (M.stepA S2 j ⟨none, d2⟩).1.tr ++ [⟨0, j, 0, (M.stepA S2 j ⟨none, d2⟩).2.1.1, (M.stepA S2 j ⟨none, d2⟩).2.1.2⟩] } else (M.stepA S2 j ⟨none, d2⟩).1) (by
     split
     ·exact .inl rfl
     ·exact .inr ⟨_, rfl⟩)
    dsimp only
    rw [r1, r2]
    by_cases hdd : c.dead = true
    ·rw [if_pos hdd]
     exact h
    ·rw [if_neg hdd]
     obtain ⟨m, d⟩ := c
     cases m with
     | none =>
      rw [show M.stepA S1 j ⟨none, d⟩ = (S1, (aaZ, anZ), 0) from rfl]
      exact h
     | some s =>
      have hs := h.oth j s d hj h1
      by_cases hl : M.live s = false
      ·rw [show M.stepA S1 j ⟨some s, d⟩ = (S1, (aaZ, anZ), 0) from if_pos hl]
       exact h
      ·have hl' : M.live s = true := by simpa using hl
       by_cases he : (M.want s).err S1.bs.length = 0
       ·obtain ⟨w0, w1, w2⟩ := hO.at_ s _ hs he
        have q1 : M.stepA S1 j ⟨some s, d⟩ = ({ S1 with bs := (M.want s).out S1.bs, cnt := S1.cnt + 1, acts := S1.acts.set j ⟨some (M.step s ((M.want s).ans S1.bs)), d⟩ }, (M.want s, (M.want s).ans S1.bs), 0) := (if_neg hl).trans (if_pos he)
        rw [q1, if_pos rfl]
        exact h.one hj _ (fun s' d' e => by cases e; exact hO.step s _ hs (AA.ans_ok h.isb he)) (h.bs.acc_far he w0 (by omega)) (out_isB h.isb (hO.wf s hs))
       ·have q1 : M.stepA S1 j ⟨some s, d⟩ = ({ S1 with acts := S1.acts.set j ⟨some s, true⟩ }, (aaZ, anZ), (M.want s).err S1.bs.length) := (if_neg hl).trans (if_neg he)
        rw [q1, if_neg he]
        exact h.one hj _ (fun s' d' e => by cases e; exact hs) h.bs h.isb
theorem aaZ_err (N : Nat) : aaZ.err N ≠ 0 := by
 unfold AA.err acE aaZ
 dsimp only
 rw [if_pos (by decide)]
 decide
theorem Local.chain (c : ChP M) {Lm : M.σ → Prop} {lo hi : Nat} (h : Local M Lm lo hi) (Tc : c.τ → Prop) (hmo : ∀ t, Tc t → (∀ m, (c.mo t).1 = some m → Lm m) ∧ Tc (c.mo t).2) (hen : ∀ m t, Tc t → Lm m → Tc (c.en m t)) : Local c.mac (fun f => (∀ m, f.1 = some m → Lm m) ∧ Tc f.2) lo hi := by
 have hset : ∀ (n : Nat) (f : Option M.σ × c.τ), (∀ m, f.1 = some m → Lm m) ∧ Tc f.2 → (∀ m, (c.settle n f).1 = some m → Lm m) ∧ Tc (c.settle n f).2 := by
  intro n
  induction n with
  | zero => intro f hf; exact hf
  | succ n ih =>
   rintro ⟨cur, t⟩ hf
   cases cur with
   | none => exact hf
   | some m =>
    unfold ChP.settle
    split
    ·exact hf
    ·exact ih _ (hmo _ (hen m t hf.2 (hf.1 m rfl)))
 refine ⟨fun s hs => ?_, fun s N hs he => ?_, fun s x hs hx => ?_⟩
 ·obtain ⟨cur, t⟩ := s
  cases cur with
  | none => exact aaZ_wf
  | some m => exact h.wf m (hs.1 m rfl)
 ·obtain ⟨cur, t⟩ := s
  cases cur with
  | none => exact absurd he (aaZ_err N)
  | some m => exact h.at_ m N (hs.1 m rfl) he
 ·obtain ⟨cur, t⟩ := s
  cases cur with
  | none => exact hs
  | some m =>
   refine hset _ _ ⟨fun m' e => ?_, hs.2⟩
   cases e
   exact h.step m x (hs.1 m rfl) hx
theorem Local.started (c : ChP M) {Lm : M.σ → Prop} (Tc : c.τ → Prop) (hmo : ∀ t, Tc t → (∀ m, (c.mo t).1 = some m → Lm m) ∧ Tc (c.mo t).2) (hen : ∀ m t, Tc t → Lm m → Tc (c.en m t)) (t : c.τ) (ht : Tc t) : (∀ m, (c.start t).1 = some m → Lm m) ∧ Tc (c.start t).2 := by
 have hset : ∀ (n : Nat) (f : Option M.σ × c.τ), (∀ m, f.1 = some m → Lm m) ∧ Tc f.2 → (∀ m, (c.settle n f).1 = some m → Lm m) ∧ Tc (c.settle n f).2 := by
  intro n
  induction n with
  | zero => intro f hf; exact hf
  | succ n ih =>
   rintro ⟨cur, t⟩ hf
   cases cur with
   | none => exact hf
   | some m =>
    unfold ChP.settle
    split
    ·exact hf
    ·exact ih _ (hmo _ (hen m t hf.2 (hf.1 m rfl)))
 exact hset _ _ (hmo t ht)
theorem Local.sum {M N : Mac} {Lm : M.σ → Prop} {Ln : N.σ → Prop} (h : Local M Lm lo hi) (k : Local N Ln lo hi) : Local (Mac.Sum M N) (fun s => match s with | .inl x => Lm x | .inr x => Ln x) lo hi :=
 ⟨fun s hs => match s, hs with | .inl x, hs => h.wf x hs | .inr x, hs => k.wf x hs, fun s n hs he => match s, hs, he with | .inl x, hs, he => h.at_ x n hs he | .inr x, hs, he => k.at_ x n hs he, fun s a hs hx => match s, hs, hx with | .inl x, hs, hx => h.step x a hs hx | .inr x, hs, hx => k.step x a hs hx⟩
end Go.Proofs.YtggjhleomocojaaGreat
