/- Contract of sched.World.act. Conditions: as it says. Contract of sched.copied. Conditions: the bytes are fewer than 2^46. -/
import Derived.Test.YtggjhleomocojaaGreatSe
import Derived.Maps.AppendAt
section
namespace Go.Proofs.YtggjhleomocojaaGreat
set_option maxRecDepth 100000
open Go.RowKit
set_option linter.unusedVariables false
set_option linter.unusedSimpArgs false
variable {C : Fam} {w : World} {κ : Nat → Kd} {W p c : Nat} {av tv : Value} {ab : Nat → Nat}
theorem WoIn.actLt {S : SW C.M.σ} (h : WoIn C w κ W p c av tv ab S) {i : Nat} {a : Ac C.M.σ} (hi : S.acts[i]? = some a) : ab i < w.heap.size :=
 h.all _ (by rw [(h.act i a hi).1]; nofun)
theorem WoIn.kill {S : SW C.M.σ} (h : WoIn C w κ W p c av tv ab S) {i : Nat} {a : Ac C.M.σ} (hi : S.acts[i]? = some a) {w' : World}
  (k : Keep (· = ab i) w w') (hb : ∀ mv, Blk w (ab i) [mv, .bool a.dead] → Blk w' (ab i) [mv, .bool true]) : WoIn C w' κ W p c av tv ab { S with acts := S.acts.set i ⟨a.m, true⟩ } := by
 have ha := (h.act i a hi).1
 have ne : ∀ j, κ j ≠ .ac i → ¬ j = ab i := fun j hj e => hj (e ▸ ha)
 refine ⟨h.hd.keep k (ne _ (by rw [h.kW]; nofun)), h.kW, h.buf.keep k (ne _ (by rw [h.kp]; nofun)) (ne _ (by rw [h.kc]; nofun)), h.kp, h.kc, ?_, ?_, h.tr.keep k (fun j hj => ne _ (by rcases hj with hj | hj <;> rw [hj] <;> nofun)) (fun _ _ => rfl), fun j hj => Nat.lt_of_lt_of_le (h.all j hj) k.size⟩
 ·simp only [List.length_set]
  refine h.row.imp id ?_
  rintro ⟨g, cap, e1, e2, e3, e4, e5⟩
  exact ⟨g, cap, e1, e2, e3, e4, fun j hj => (k.cell _ (h.all g (by rw [e4]; nofun)) (ne _ (by rw [e4]; nofun))).trans (e5 j hj)⟩
 ·intro j b hj
  by_cases hij : i = j
  ·subst hij
   have hlt : i < S.acts.length := (List.getElem?_eq_some_iff.1 hi).1
   simp only [List.getElem?_set_self hlt, Option.some.injEq] at hj
   subst hj
   obtain ⟨mv, h1, h2⟩ := (h.act i a hi).2
   exact ⟨ha, mv, hb mv h1, h2.keep k (fun l hl => ne _ (by rw [hl]; nofun))⟩
  ·rw [List.getElem?_set_ne hij] at hj
   obtain ⟨e, hA⟩ := h.act j b hj
   exact ⟨e, hA.keep k (fun l hl => ne _ (by rw [hl]; nofun)) (ne _ (by rw [e]; intro he; cases he; exact hij rfl))⟩
def kdM (κ : Nat → Kd) (i B E : Nat) : Nat → Kd := fun k => if B ≤ k ∧ k < E then .ma i else κ k
theorem kdM_old {i B E k : Nat} (h : k < B) : kdM κ i B E k = κ k := by
 unfold kdM
 rw [if_neg (by omega)]
theorem WoIn.mach {S : SW C.M.σ} (h : WoIn C w κ W p c av tv ab S) {i : Nat} {s s' : C.M.σ} {d : Bool} (hi : S.acts[i]? = some ⟨some s, d⟩) {w' : World} {xb q B : Nat} {F' : Nat → Prop} {cnt' : Int} {bs' : List Int}
  (k : Keep (fun j => κ j = .ma i ∨ j = xb ∨ j = p ∨ j = c) w w') (hx : κ xb = .no) (hB : w.heap.size ≤ B) (hBuf : Buf w' p c cnt' bs') (hq : Blk w (ab i) [.iface (C.ty s) (.pointer (some ⟨q, 0, none⟩)), .bool d]) (hs : C.inv w' F' q s') (hF : ∀ j, F' j → κ j = .ma i ∨ B ≤ j) (ht : C.ty s' = C.ty s) :
  WoIn C w' (kdM κ i B w'.heap.size) W p c av tv ab { S with bs := bs', cnt := cnt', acts := S.acts.set i ⟨some s', d⟩ } := by
 have ha := (h.act i _ hi).1
 have old : ∀ j, κ j ≠ .no → kdM κ i B w'.heap.size j = κ j := fun j hj => kdM_old (Nat.lt_of_lt_of_le (h.all j hj) hB)
 have ne : ∀ j, κ j ≠ .no → κ j ≠ .ma i → κ j ≠ .bu → ¬ (κ j = .ma i ∨ j = xb ∨ j = p ∨ j = c) := by
  rintro j h1 h2 h3 (e | e | e | e)
  ·exact h2 e
  ·exact h1 (e ▸ hx)
  ·exact h3 (e ▸ h.kp)
  ·exact h3 (e ▸ h.kc)
 have dom := C.dom hs
 refine ⟨h.hd.keep k (ne _ (by rw [h.kW]; nofun) (by rw [h.kW]; nofun) (by rw [h.kW]; nofun)), by rw [old _ (by rw [h.kW]; nofun)]; exact h.kW, hBuf, by rw [old _ (by rw [h.kp]; nofun)]; exact h.kp, by rw [old _ (by rw [h.kc]; nofun)]; exact h.kc, ?_, ?_, ?_, ?_⟩
 ·simp only [List.length_set]
  refine h.row.imp id ?_
  rintro ⟨g, cap, e1, e2, e3, e4, e5⟩
  exact ⟨g, cap, e1, e2, e3, by rw [old _ (by rw [e4]; nofun)]; exact e4, fun j hj => (k.cell _ (h.all g (by rw [e4]; nofun)) (ne _ (by rw [e4]; nofun) (by rw [e4]; nofun) (by rw [e4]; nofun))).trans (e5 j hj)⟩
 ·intro j b hj
  by_cases hij : i = j
  ·subst hij
   have hlt : i < S.acts.length := (List.getElem?_eq_some_iff.1 hi).1
   simp only [List.getElem?_set_self hlt, Option.some.injEq] at hj
   subst hj
   refine ⟨by rw [old _ (by rw [ha]; nofun)]; exact ha, _, hq.keep k (ne _ (by rw [ha]; nofun) (by rw [ha]; nofun) (by rw [ha]; nofun)), q, by rw [ht], C.mono hs ?_ ?_⟩
   ·intro l hl
    rcases hF l hl with hl' | hl'
    ·rw [old _ (by rw [hl']; nofun)]; exact hl'
    ·unfold kdM
     rw [if_pos ⟨hl', dom.2 l hl⟩]
   ·intro l hl
    unfold kdM at hl
    split at hl
    ·omega
    ·exact Nat.lt_of_lt_of_le (h.all l (by rw [hl]; nofun)) k.size
  ·rw [List.getElem?_set_ne hij] at hj
   obtain ⟨e, mv, hA, hm⟩ := h.act j b hj
   have hne : Kd.ma j ≠ .ma i := by intro he; cases he; exact hij rfl
   refine ⟨by rw [old _ (by rw [e]; nofun)]; exact e, mv, hA.keep k (ne _ (by rw [e]; nofun) (by rw [e]; nofun) (by rw [e]; nofun)), ?_⟩
   have hm' := hm.keep k (fun l hl => ne l (by rw [hl]; nofun) (by rw [hl]; exact hne) (by rw [hl]; nofun))
   cases hbm : b.m with
   | none =>
    rw [hbm] at hm'
    exact hm'
   | some s2 =>
    rw [hbm] at hm'
    obtain ⟨q2, e2, hi2⟩ := hm'
    refine ⟨q2, e2, C.mono hi2 (fun l hl => by rw [old _ (by rw [hl]; nofun)]; exact hl) ?_⟩
    intro l hl
    unfold kdM at hl
    split at hl
    ·cases hl
     exact absurd rfl hij
    ·exact Nat.lt_of_lt_of_le (h.all l (by rw [hl]; nofun)) k.size
 ·exact h.tr.keep k (fun j hj => ne j (by rcases hj with hj | hj <;> rw [hj] <;> nofun) (by rcases hj with hj | hj <;> rw [hj] <;> nofun) (by rcases hj with hj | hj <;> rw [hj] <;> nofun)) (fun j hj => old j (by rcases hj with hj | hj <;> rw [hj] <;> nofun))
 ·intro j hj
  unfold kdM at hj
  split at hj
  ·omega
  ·exact Nat.lt_of_lt_of_le (h.all j hj) k.size
def ActPost (C : Fam) (w : World) (κ : Nat → Kd) (W p c : Nat) (av tv : Value) (ab : Nat → Nat) (xb : Nat) (pk pa pn : Int) (R : SW C.M.σ × (AA × AN) × Int) (e : Ending) (w' : World) : Prop :=
 e = .returned (.int .i64 R.2.2) ∧ ∃ κ' sv sx, WoIn C w' κ' W p c av tv ab R.1 ∧ (∀ i, i < w.heap.size → κ' i = κ i) ∧
  (R.2.2 = 0 → Blk w' xb (evC pk pa pn R.2.1.1 sv R.2.1.2 sx) ∧ RdB w' sv R.2.1.1.b ∧ RdB w' sx R.2.1.2.b ∧ ∀ i, sv.ownBlock = some i ∨ sx.ownBlock = some i → (w.heap.size ≤ i ∧ i < w'.heap.size) ∧ κ' i = .no) ∧ Keep (fun i => κ i ≠ .no ∨ i = xb) w w'
set_option maxHeartbeats 1000000 in
theorem wAct_any {S : SW C.M.σ} (h : WoIn C w κ W p c av tv ab S) (xb : Nat) (k a n : Int) (hx : Blk w xb (evC k a n aaZ nilSl anZ nilSl)) (hκ : κ xb = .no) (hc0 : 0 ≤ S.cnt) (hc1 : S.cnt ≤ 4611686018427387904) :
  Calls Tryz.prog 52 #[.pointer (some ⟨W, 0, none⟩), .agg #[.int .i64 k, .int .i64 a, .int .i64 n], .pointer (some ⟨xb, 0, none⟩)] w (ActPost C w κ W p c av tv ab xb k a n (C.M.act S k a)) := by
 by_cases hr : a < 0 ∨ (S.acts.length : Int) ≤ a
 ·have hR : C.M.act S k a = (S, (aaZ, anZ), 2) := by
   unfold Mac.act
   by_cases h0 : a < 0
   ·rw [if_pos h0]
   ·rw [if_neg h0, List.getElem?_eq_none (by omega)]
  rw [hR]
  have H := Lib.hid h
  clear h hx
  go_enter Tryz.func52, Tryz.ntmps52
  go_wp2_with fail
  refine (wAt_none (H.out.below ((Below.refl _ _).alloc (Nat.le_refl _) _)) a hr).mono ?_
  rintro e w' ⟨rfl, rfl⟩
  go_wp2
  go_ret
  have b := (Below.refl w.heap.size w).alloc (Nat.le_refl _) (.cells #[.int .i64 k, .int .i64 a, .int .i64 n] 70)
  exact ⟨rfl, κ, nilSl, nilSl, H.out.below b, fun _ _ => rfl, (fun h => absurd (show (2 : Int) = 0 from h) (by decide)), Below.keeps b⟩
 obtain ⟨i, rfl⟩ := Int.eq_ofNat_of_zero_le (show 0 ≤ a by omega)
 have hil : i < S.acts.length := by omega
 obtain ⟨A, hA⟩ : ∃ A, S.acts[i]? = some A := ⟨_, List.getElem?_eq_getElem hil⟩
 have hact : C.M.act S k i = if A.dead = true then (S, (aaZ, anZ), 11) else if k = 1 then ({ S with acts := S.acts.set i ⟨A.m, true⟩ }, (aaZ, anZ), 0) else C.M.stepA S i A := by
  unfold Mac.act
  rw [if_neg (by omega), Int.toNat_natCast, hA]
 obtain ⟨ha, mv, hb, hm⟩ := h.act i A hA
 have hal := h.actLt hA
 have H := Lib.hid h
 have HX := Lib.hid hx
 have HBb := Lib.hid hb
 have hxl := hx.lt
 by_cases hd : A.dead = true
 ·have hR : C.M.act S k i = (S, (aaZ, anZ), 11) := by rw [hact, if_pos hd]
  rw [hR]
  rw [hd] at hb
  have y1 := hb.cell 1
  simp only [List.getElem?_cons_zero, List.getElem?_cons_succ] at y1
  have hane : ab i ≠ w.heap.size := by omega
  clear h hx hb hact hm
  go_enter Tryz.func52, Tryz.ntmps52
  go_wp2_with fail
  refine (wAt_some (H.out.below ((Below.refl _ _).alloc (Nat.le_refl _) _)) i hil).mono ?_
  rintro e w' ⟨rfl, rfl⟩
  go_wp2
  go_ret
  have b := (Below.refl w.heap.size w).alloc (Nat.le_refl _) (.cells #[.int .i64 k, .int .i64 i, .int .i64 n] 70)
  exact ⟨rfl, κ, nilSl, nilSl, H.out.below b, fun _ _ => rfl, (fun h => absurd (show (11 : Int) = 0 from h) (by decide)), Below.keeps b⟩
 ·have hdf : A.dead = false := by simpa using hd
  have y1 := hb.cell 1
  have g1 := hb.frozen 1
  simp only [List.getElem?_cons_zero, List.getElem?_cons_succ, hdf] at y1
  have b := (Below.refl w.heap.size w).alloc (Nat.le_refl _) (.cells #[.int .i64 k, .int .i64 i, .int .i64 n] 70)
  have BB := Lib.hid b
  clear b
  by_cases hk : k = 1
  ·have hR : C.M.act S k i = ({ S with acts := S.acts.set i ⟨A.m, true⟩ }, (aaZ, anZ), 0) := by rw [hact, if_neg hd, if_pos hk]
   rw [hR]
   subst hk
   clear h hx hb hact hm hR hdf
   go_enter Tryz.func52, Tryz.ntmps52
   go_wp2_with fail
   refine (wAt_some (H.out.below ((Below.refl _ _).alloc (Nat.le_refl _) _)) i hil).mono ?_
   rintro e w' ⟨rfl, rfl⟩
   go_wp2
   go_ret
   have hxab : xb ≠ ab i := fun e => by rw [e, ha] at hκ; cases hκ
   have hkill := H.out.kill hA (Keep.setCell (M := (· = ab i)) (Keep.refl _ w) (p := ⟨ab i, 1, none⟩) (.inl rfl) (.bool true)) (fun mv hmv => hmv.set 1 _)
   have hbl : Below (w.setCell ⟨ab i, 1, none⟩ (.bool true)).heap.size (w.setCell ⟨ab i, 1, none⟩ (.bool true)) ((w.setCell ⟨ab i, 1, none⟩ (.bool true)).alloc (.cells #[.int .i64 1, .int .i64 i, .int .i64 n] 70)) := (Below.refl _ _).alloc (Nat.le_refl _) _
   refine ⟨rfl, κ, nilSl, nilSl, hkill.below hbl, fun _ _ => rfl, fun _ => ⟨(Blk.far HX.out (a := ⟨ab i, 1, none⟩) hxab _).alloc _, .inl ⟨rfl, rfl⟩, .inl ⟨rfl, rfl⟩, (fun j hj => by rcases hj with hj | hj <;> cases hj)⟩, ?_⟩
   exact (Keep.setCell (Keep.refl _ w) (p := ⟨ab i, 1, none⟩) (.inl (.inl (by show κ (ab i) ≠ _; rw [ha]; nofun))) _).alloc _
  ·have hR : C.M.act S k i = C.M.stepA S i A := by rw [hact, if_neg hd, if_neg hk]
   rw [hR]
   have hkb : (k == 1) = false := by simpa using hk
   have HM := Lib.hid hm
   have HDF := Lib.hid hdf
   have HW := Lib.hid h.hd
   have HBuf := Lib.hid h.buf
   have KW := Lib.hid h.kW
   have KP := Lib.hid h.kp
   have KC := Lib.hid h.kc
   have hbb := hb
   rw [hdf] at hbb
   have HBf := Lib.hid hbb
   clear h hx hb hbb hact hm hR hdf
   have key : Calls Tryz.prog 89 #[.pointer (some ⟨W, 0, none⟩), .pointer (some ⟨ab i, 0, none⟩), .pointer (some ⟨xb, 0, none⟩)] (w.alloc (.cells #[.int .i64 k, .int .i64 i, .int .i64 n] 70)) (ActPost C w κ W p c av tv ab xb k i n (C.M.stepA S i A)) := by
    obtain ⟨w1, hw1⟩ : ∃ w1, w1 = w.alloc (.cells #[.int .i64 k, .int .i64 i, .int .i64 n] 70) := ⟨_, rfl⟩
    have B1 : Below w.heap.size w w1 := by rw [hw1]; exact BB.out
    rw [← hw1]
    clear hw1
    have h1 := H.out.below B1
    obtain ⟨m, dd⟩ := A
    obtain rfl : dd = false := HDF.out
    by_cases hlv : C.M.lives ⟨m, false⟩ = false
    ·have hs : C.M.stepA S i ⟨m, false⟩ = (S, (aaZ, anZ), 0) := by
      unfold Mac.stepA
      cases m with
      | none => rfl
      | some s => simp only; rw [if_pos (by simpa [Mac.lives] using hlv)]
     rw [hs]
     refine (wStep_end C (fun k => κ k = .ma i) W (ab i) xb ⟨m, false⟩ w1 (h1.act i _ hA).2 hlv).mono ?_
     rintro e w' ⟨rfl, b2⟩
     exact ⟨rfl, κ, nilSl, nilSl, h1.below b2, fun _ _ => rfl, fun _ => ⟨(HX.out.below B1 hxl).below b2 (Nat.lt_of_lt_of_le hxl B1.size), .inl ⟨rfl, rfl⟩, .inl ⟨rfl, rfl⟩, fun j hj => by rcases hj with hj | hj <;> cases hj⟩, (Below.keeps B1).trans (Below.keeps b2)⟩
    ·cases m with
     | none => exact absurd rfl hlv
     | some s =>
      have hl : C.M.live s = true := by simpa [Mac.lives] using hlv
      obtain ⟨q, rfl, hi⟩ := HM.out
      have hi1 : C.inv w1 (fun k => κ k = .ma i) q s := C.keep hi (Below.keeps (M := fun _ => False) B1) (fun _ _ => id)
      have hb1 := HBf.out.below B1 hal
      have hne : ∀ j, κ j ≠ .no → j ≠ xb := fun j hj e => hj (e ▸ hκ)
      by_cases he : (C.M.want s).err S.bs.length = 0
      ·have hs : C.M.stepA S i ⟨some s, false⟩ = ({ S with bs := (C.M.want s).out S.bs, cnt := S.cnt + 1, acts := S.acts.set i ⟨some (C.M.step s ((C.M.want s).ans S.bs)), false⟩ }, (C.M.want s, (C.M.want s).ans S.bs), 0) := by
        simp only [Mac.stepA]
        rw [if_neg (by simp [hl]), if_pos he]
       rw [hs]
       have hbw : Kd.bu ≠ Kd.wo := by nofun
       have hba : Kd.bu ≠ Kd.ac i := by nofun
       refine (wStep_ok C (fun k => κ k = .ma i) W (ab i) xb p c q false s S.cnt S.bs _ k i n w1 (HW.out.below B1 HW.out.lt) hb1 hi1 (HX.out.below B1 hxl) (HBuf.out.belows B1) hc0 hc1 hl he
        ⟨fun e => hne p (by rw [KP.out]; nofun) e.symm, fun e => hne c (by rw [KC.out]; nofun) e.symm, fun e => hne _ (by rw [ha]; nofun) e.symm, fun e => hne W (by rw [KW.out]; nofun) e.symm, fun e => hba (by rw [← KP.out, ← ha, e]), fun e => hba (by rw [← KC.out, ← ha, e]), fun e => hbw (by rw [← KP.out, ← KW.out, e]), fun e => hbw (by rw [← KC.out, ← KW.out, e])⟩
        (fun j hj => ⟨(fun e => by rw [e, KP.out] at hj; cases hj), (fun e => by rw [e, KC.out] at hj; cases hj), (fun e => by rw [e, ha] at hj; cases hj), (fun e => by rw [e, hκ] at hj; cases hj), (fun e => by rw [e, KW.out] at hj; cases hj)⟩)).mono ?_
       rintro e w' ⟨rfl, F', B, sv, sx, hxb, hr1, hr2, hown, hbuf', hinv', hF', ⟨hB', hBw⟩, kp⟩
       have hb1s := B1.size
       refine ⟨rfl, kdM κ i B w'.heap.size, sv, sx, h1.mach hA kp hκ hB' hbuf' hb1 hinv' hF' (C.ts _ _), fun j hj => kdM_old (by omega), fun _ => ⟨hxb, hr1, hr2, fun j hj => ?_⟩, ?_⟩
       ·have h3 := hown j hj
        refine ⟨by omega, ?_⟩
        rw [kdM_old h3.2]
        by_cases hn : κ j = .no
        ·exact hn
        ·have := H.out.all j hn
         omega
       ·refine (Below.keeps B1).then kp fun j _ hj => ?_
        rcases hj with hj | hj | hj | hj
        ·exact .inl (by rw [hj]; nofun)
        ·exact .inr hj
        ·exact .inl (by rw [hj, KP.out]; nofun)
        ·exact .inl (by rw [hj, KC.out]; nofun)
      ·have hs : C.M.stepA S i ⟨some s, false⟩ = ({ S with acts := S.acts.set i ⟨some s, true⟩ }, (aaZ, anZ), (C.M.want s).err S.bs.length) := by
        simp only [Mac.stepA]
        rw [if_neg (by simp [hl]), if_neg he]
       rw [hs]
       refine (wStep_bad C (fun k => κ k = .ma i) W (ab i) xb p c q false s S.cnt S.bs _ w1 (HW.out.below B1 HW.out.lt) hb1 hi1 (HBuf.out.belows B1) hl he).mono ?_
       rintro e w' ⟨rfl, hb', kp⟩
       refine ⟨rfl, κ, nilSl, nilSl, h1.kill hA kp (fun mv hmv => ?_), fun _ _ => rfl, fun h0 => absurd h0 he, (Below.keeps B1).then kp fun j _ hj => .inl (by rw [show j = ab i from hj, ha]; nofun)⟩
       have e1 := hmv.cell 0
       rw [hb1.cell 0] at e1
       simp only [List.getElem?_cons_zero, Option.some.injEq] at e1
       rw [← e1]
       exact hb'
   have KEY := Lib.hid key
   clear key
   go_enter Tryz.func52, Tryz.ntmps52
   go_wp2_with fail
   refine (wAt_some (H.out.below ((Below.refl _ _).alloc (Nat.le_refl _) _)) i hil).mono ?_
   rintro e w' ⟨rfl, rfl⟩
   go_wp2_with fail
   refine KEY.out.mono ?_
   rintro e w' ⟨rfl, hq⟩
   go_wp2
   go_ret
   exact ⟨rfl, hq⟩
def evV (pk pa pn : Int) (c : AA) (s : Value) (x : AN) (t : Value) : Value := .agg #[.int .i64 pk, .int .i64 pa, .int .i64 pn, .int .i64 c.k, .int .i64 c.a, .int .i64 c.n, .int .u64 c.v, .int .u64 c.x, s, .int .u64 x.v, .bool x.d, t]
theorem Blk.c12 {b : Nat} {y0 y1 y2 y3 y4 y5 y6 y7 y8 y9 y10 y11 : Value} (h : Blk w b [y0, y1, y2, y3, y4, y5, y6, y7, y8, y9, y10, y11]) : w.cell? ⟨b, 0, none⟩ = some y0 ∧ w.cell? ⟨b, 1, none⟩ = some y1 ∧ w.cell? ⟨b, 2, none⟩ = some y2 ∧ w.cell? ⟨b, 3, none⟩ = some y3 ∧ w.cell? ⟨b, 4, none⟩ = some y4 ∧ w.cell? ⟨b, 5, none⟩ = some y5 ∧ w.cell? ⟨b, 6, none⟩ = some y6 ∧ w.cell? ⟨b, 7, none⟩ = some y7 ∧ w.cell? ⟨b, 8, none⟩ = some y8 ∧ w.cell? ⟨b, 9, none⟩ = some y9 ∧ w.cell? ⟨b, 10, none⟩ = some y10 ∧ w.cell? ⟨b, 11, none⟩ = some y11 :=
 ⟨h.cell 0, h.cell 1, h.cell 2, h.cell 3, h.cell 4, h.cell 5, h.cell 6, h.cell 7, h.cell 8, h.cell 9, h.cell 10, h.cell 11⟩
theorem Blk.f12 {b : Nat} {cs : List Value} (h : Blk w b cs) : w.frozen? ⟨b, 0, none⟩ = false ∧ w.frozen? ⟨b, 1, none⟩ = false ∧ w.frozen? ⟨b, 2, none⟩ = false ∧ w.frozen? ⟨b, 3, none⟩ = false ∧ w.frozen? ⟨b, 4, none⟩ = false ∧ w.frozen? ⟨b, 5, none⟩ = false ∧ w.frozen? ⟨b, 6, none⟩ = false ∧ w.frozen? ⟨b, 7, none⟩ = false ∧ w.frozen? ⟨b, 8, none⟩ = false ∧ w.frozen? ⟨b, 9, none⟩ = false ∧ w.frozen? ⟨b, 10, none⟩ = false ∧ w.frozen? ⟨b, 11, none⟩ = false :=
 ⟨h.frozen 0, h.frozen 1, h.frozen 2, h.frozen 3, h.frozen 4, h.frozen 5, h.frozen 6, h.frozen 7, h.frozen 8, h.frozen 9, h.frozen 10, h.frozen 11⟩
variable {fn : Func}
theorem results_cell1g {p : Tmp} {ty : TypeId} (h : fn.results = #[.cell p ty]) (tmps : Array Value) (P : Program) (w : World) :
  (results fn tmps).run P w = ((asAddr (tmps.getD p undef)).run P w).andThen fun a w₁ => (loadVar ty a).run P w₁ := by
 simp only [results, h]
 simp [Sem.run_bind, Result.andThen]
theorem res_ev {tmps : Array Value} {W : World} {p q : Nat} {pk pa pn : Int} {c : AA} {s0 t0 : Option Addr} {sl sc tl tc : Nat} {x : AN} (hf : fn.results = #[.cell p 76]) (hp : tmps.getD p undef = .pointer (some ⟨q, 0, none⟩))
  (h : Blk W q (evC pk pa pn c (.slice s0 sl sc) x (.slice t0 tl tc))) : (results fn tmps).run Tryz.prog W = .ok (evV pk pa pn c (.slice s0 sl sc) x (.slice t0 tl tc)) W := by
 unfold evC at h
 obtain ⟨c0, c1, c2, c3, c4, c5, c6, c7, c8, c9, c10, c11⟩ := h.c12
 clear h
 rw [results_cell1g hf, hp]
 go_simp
 rfl
set_option maxHeartbeats 1000000 in
theorem wCopied_any (pk pa pn : Int) (c : AA) (s0 : Option Addr) (sl sc : Nat) (x : AN) (t0 : Option Addr) (tl tc : Nat) (w : World) (h1 : RdB w (.slice s0 sl sc) c.b) (h2 : RdB w (.slice t0 tl tc) x.b) (hl1 : c.b.length ≤ 70368744177664) (hl2 : x.b.length ≤ 70368744177664) :
  Calls Tryz.prog 53 #[evV pk pa pn c (.slice s0 sl sc) x (.slice t0 tl tc)] w fun e w' => ∃ m0 ml mc n0 nl nc, e = .returned (evV pk pa pn c (.slice m0 ml mc) x (.slice n0 nl nc)) ∧ OwB 5 w.heap.size w' (.slice m0 ml mc) c.b ∧ OwB 5 w.heap.size w' (.slice n0 nl nc) x.b ∧ Below w.heap.size w w' := by
 have H1 := Lib.hid h1
 have H2 := Lib.hid h2
 clear h1 h2
 unfold evV
 go_enter Tryz.func53, Tryz.ntmps53
 go_upto_region 1 with fail
 obtain ⟨w1, hw1⟩ : ∃ w1, w1 = ((w.alloc (Obj.cells #[.int .i64 pk, .int .i64 pa, .int .i64 pn, .int .i64 c.k, .int .i64 c.a, .int .i64 c.n, .int .u64 c.v, .int .u64 c.x, .slice s0 sl sc, .int .u64 x.v, .bool x.d, .slice t0 tl tc] 76)).alloc (Obj.cells #[.int .i64 0, .int .i64 0, .int .i64 0, .int .i64 0, .int .i64 0, .int .i64 0, .int .u64 0, .int .u64 0, .slice none 0 0, .int .u64 0, .bool false, .slice none 0 0] 76)) := ⟨_, rfl⟩
 have A1 : Blk w1 w.heap.size [.int .i64 pk, .int .i64 pa, .int .i64 pn, .int .i64 c.k, .int .i64 c.a, .int .i64 c.n, .int .u64 c.v, .int .u64 c.x, .slice s0 sl sc, .int .u64 x.v, .bool x.d, .slice t0 tl tc] := by rw [hw1]; exact Blk.alloc (Blk.made w _ _) _
 have R1 : Blk w1 (w.heap.size + 1) [.int .i64 0, .int .i64 0, .int .i64 0, .int .i64 0, .int .i64 0, .int .i64 0, .int .u64 0, .int .u64 0, .slice none 0 0, .int .u64 0, .bool false, .slice none 0 0] := by rw [hw1]; simpa using Blk.made (w.alloc (Obj.cells #[.int .i64 pk, .int .i64 pa, .int .i64 pn, .int .i64 c.k, .int .i64 c.a, .int .i64 c.n, .int .u64 c.v, .int .u64 c.x, .slice s0 sl sc, .int .u64 x.v, .bool x.d, .slice t0 tl tc] 76)) #[.int .i64 0, .int .i64 0, .int .i64 0, .int .i64 0, .int .i64 0, .int .i64 0, .int .u64 0, .int .u64 0, .slice none 0 0, .int .u64 0, .bool false, .slice none 0 0] 76
 have B1 : Below w.heap.size w w1 := by rw [hw1]; go_grown
 have z1 : w1.heap.size = w.heap.size + 2 := by rw [hw1]; simp
 rw [← hw1]
 clear hw1
 have HA := Lib.hid A1
 have HR := Lib.hid R1
 have HB := Lib.hid B1
 have R8 : w1.cell? ⟨w.heap.size, 8, none⟩ = some (.slice s0 sl sc) := A1.cell 8
 have R11 : w1.cell? ⟨w.heap.size, 11, none⟩ = some (.slice t0 tl tc) := A1.cell 11
 have S1 := Lib.hid (H1.out.below B1)
 have S2 := Lib.hid (H2.out.below B1)
 clear A1 R1 B1
 have y0 : w.heap.size < w1.heap.size := by omega
 have y1 : w.heap.size + 1 < w1.heap.size := by omega
 go_cut [] from 3 to 14 (fun wx => ∃ m0 ml mc n0 nl nc, Blk wx w.heap.size [.int .i64 pk, .int .i64 pa, .int .i64 pn, .int .i64 c.k, .int .i64 c.a, .int .i64 c.n, .int .u64 c.v, .int .u64 c.x, .slice m0 ml mc, .int .u64 x.v, .bool x.d, .slice n0 nl nc] ∧ Blk wx (w.heap.size + 1) [.int .i64 0, .int .i64 0, .int .i64 0, .int .i64 0, .int .i64 0, .int .i64 0, .int .u64 0, .int .u64 0, .slice none 0 0, .int .u64 0, .bool false, .slice none 0 0] ∧ OwB 5 (w.heap.size + 2) wx (.slice m0 ml mc) c.b ∧ OwB 5 (w.heap.size + 2) wx (.slice n0 nl nc) x.b ∧ Below w.heap.size w wx)
 case first =>
  refine wp_region_held_drew (S := fun _ => True) (by kernel_rfl) ?_ (fun hHeld => ?_)
  ·try dsimp only
   all_goals trivial
  refine wpT 0 rfl ?_
  try simp only [Act.put, tS]
  refine wpT 1 rfl ?_
  try simp only [Act.put, tS]
  refine wpT 4 rfl ?_
  try simp only [Act.put, tS]
  refine wpT 5 rfl ?_
  try simp only [Act.put, tS]
  refine wpAnyH_ready (rs := [2, 6]) (by kernel_rfl) (by simp) ?_
  refine AllReadyH.cons rfl (fun K hK => ?_) (AllReadyH.cons rfl (fun K hK => ?_) AllReadyH.nil)
  ·go_simp
   refine hK.out _ _ ?_ (fun hHeld => ?_)
   ·try dsimp only
    all_goals trivial
   clear hK K
   try simp only [Act.put, tS]
   refine wpAnyH_ready (rs := [3, 6]) (by kernel_rfl) (by simp) ?_
   refine AllReadyH.cons rfl (fun K hK => ?_) (AllReadyH.cons rfl (fun K hK => ?_) AllReadyH.nil)
   ·go_simp
    refine (clone_any _ c.b _ (S1.out.keep (Keep.drew (Keep.refl (fun _ => False) _)) (fun _ _ _ => id)) hl1).mono ?_
    rintro e w2 ⟨u2, rfl, o2, b2⟩
    obtain ⟨m0, ml, mc, rfl⟩ := o2.isSliceC
    have B12 : Below w1.heap.size w1 w2 := bel_drew0 b2
    have z2 : w1.heap.size ≤ w2.heap.size := B12.size
    have R11b : w2.cell? ⟨w.heap.size, 11, none⟩ = some (.slice t0 tl tc) := (B12.cell (p := ⟨w.heap.size, 11, none⟩) y0).trans R11
    have O2 := Lib.hid (OwB.mono o2 (show w1.heap.size ≤ _ from Nat.le_refl _))
    clear b2 o2
    go_wp2_with fail
    refine hK.out _ _ ?_ (fun hHeld => ?_)
    ·try dsimp only
     all_goals trivial
    clear hK K
    try simp only [Act.put, tS]
    refine wpR 6 rfl fun K hK => ?_
    go_simp
    refine hK.out _ _ ?_ (fun hHeld => ?_)
    ·try dsimp only
     all_goals trivial
    clear hK K
    try simp only [Act.put, tS]
    refine wpT 8 rfl ?_
    try simp only [Act.put, tS]
    refine wpT 9 rfl ?_
    try simp only [Act.put, tS]
    refine wpR 7 rfl fun K hK => ?_
    go_simp
    refine (clone_any _ x.b _ (S2.out.below B12) hl2).mono ?_
    rintro e w3 ⟨u3, rfl, o3, b3⟩
    obtain ⟨n0, nl, nc, rfl⟩ := o3.isSliceC
    have z3 := b3.size
    have A3 := Lib.hid ((HA.out.below B12 y0).below b3 (by omega))
    have f8 := A3.out.frozen 8
    have f11 := A3.out.frozen 11
    have e8 := A3.out.cell 8
    have e11 := A3.out.cell 11
    simp only [List.getElem?_cons_zero, List.getElem?_cons_succ] at e8 e11
    have y3 : w.heap.size < w3.heap.size := by omega
    have O2b := Lib.hid (O2.out.below b3)
    have O3 := Lib.hid o3
    have R3 := Lib.hid ((HR.out.below B12 y1).below b3 (by omega))
    have B3 := Lib.hid ((HB.out.trans (B12.mono (by omega))).trans (b3.mono (by omega)))
    clear o3 b3 B12 R11b R8 R11 hHeld
    go_wp2_with fail
    refine hK.out _ _ ?_ (fun hHeld => ?_)
    ·try dsimp only
     all_goals trivial
    clear hK K
    try simp only [Act.put, tS]
    refine wpR 10 rfl fun K hK => ?_
    go_simp
    refine hK.out _ _ ?_ (fun hHeld => ?_)
    ·try dsimp only
     all_goals trivial
    clear hK K
    try simp only [Act.put, tS]
    refine wpT 11 rfl ?_
    try simp only [Act.put, tS]
    refine wpT 12 rfl ?_
    try simp only [Act.put, tS]
    refine wpR 13 rfl fun K hK => ?_
    go_simp
    refine hK.out _ _ ?_ (fun hHeld => ?_)
    ·try dsimp only
     all_goals trivial
    clear hK K
    try simp only [Act.put, tS]
    refine wpAnyH_done (by kernel_rfl) ?_ _
    go_wp2_with fail
    go_meet
    refine ⟨m0, ml, mc, n0, nl, nc, (A3.out.set 8 _).set 11 _, Blk.far (Blk.far R3.out (a := ⟨w.heap.size, 8, none⟩) (Nat.succ_ne_self _) _) (a := ⟨w.heap.size, 11, none⟩) (Nat.succ_ne_self _) _, ?_, ?_, (B3.out.setCell (p := ⟨w.heap.size, 8, none⟩) (Nat.le_refl _) _).setCell (p := ⟨w.heap.size, 11, none⟩) (Nat.le_refl _) _⟩
    ·exact OwB.farC (OwB.farC (OwB.mono O2b.out (by omega)) (a := ⟨w.heap.size, 8, none⟩) (show w.heap.size < w.heap.size + 2 by omega) _) (a := ⟨w.heap.size, 11, none⟩) (show w.heap.size < w.heap.size + 2 by omega) _
    ·exact OwB.farC (OwB.farC (OwB.mono O3.out (by omega)) (a := ⟨w.heap.size, 8, none⟩) (show w.heap.size < w.heap.size + 2 by omega) _) (a := ⟨w.heap.size, 11, none⟩) (show w.heap.size < w.heap.size + 2 by omega) _
   ·go_simp
    refine hK.out _ _ ?_ (fun hHeld => ?_)
    ·try dsimp only
     all_goals trivial
    clear hK K
    try simp only [Act.put, tS]
    refine wpR 3 rfl fun K hK => ?_
    go_simp
    refine (clone_any _ c.b _ (S1.out.keep (Keep.drew (Keep.refl (fun _ => False) _)) (fun _ _ _ => id)) hl1).mono ?_
    rintro e w2 ⟨u2, rfl, o2, b2⟩
    obtain ⟨m0, ml, mc, rfl⟩ := o2.isSliceC
    have B12 : Below w1.heap.size w1 w2 := bel_drew0 b2
    have z2 : w1.heap.size ≤ w2.heap.size := B12.size
    have R11b : w2.cell? ⟨w.heap.size, 11, none⟩ = some (.slice t0 tl tc) := (B12.cell (p := ⟨w.heap.size, 11, none⟩) y0).trans R11
    have O2 := Lib.hid (OwB.mono o2 (show w1.heap.size ≤ _ from Nat.le_refl _))
    clear b2 o2
    go_wp2_with fail
    refine hK.out _ _ ?_ (fun hHeld => ?_)
    ·try dsimp only
     all_goals trivial
    clear hK K
    try simp only [Act.put, tS]
    refine wpT 8 rfl ?_
    try simp only [Act.put, tS]
    refine wpT 9 rfl ?_
    try simp only [Act.put, tS]
    refine wpR 7 rfl fun K hK => ?_
    go_simp
    refine (clone_any _ x.b _ (S2.out.below B12) hl2).mono ?_
    rintro e w3 ⟨u3, rfl, o3, b3⟩
    obtain ⟨n0, nl, nc, rfl⟩ := o3.isSliceC
    have z3 := b3.size
    have A3 := Lib.hid ((HA.out.below B12 y0).below b3 (by omega))
    have f8 := A3.out.frozen 8
    have f11 := A3.out.frozen 11
    have e8 := A3.out.cell 8
    have e11 := A3.out.cell 11
    simp only [List.getElem?_cons_zero, List.getElem?_cons_succ] at e8 e11
    have y3 : w.heap.size < w3.heap.size := by omega
    have O2b := Lib.hid (O2.out.below b3)
    have O3 := Lib.hid o3
    have R3 := Lib.hid ((HR.out.below B12 y1).below b3 (by omega))
    have B3 := Lib.hid ((HB.out.trans (B12.mono (by omega))).trans (b3.mono (by omega)))
    clear o3 b3 B12 R11b R8 R11 hHeld
    go_wp2_with fail
    refine hK.out _ _ ?_ (fun hHeld => ?_)
    ·try dsimp only
     all_goals trivial
    clear hK K
    try simp only [Act.put, tS]
    refine wpR 10 rfl fun K hK => ?_
    go_simp
    refine hK.out _ _ ?_ (fun hHeld => ?_)
    ·try dsimp only
     all_goals trivial
    clear hK K
    try simp only [Act.put, tS]
    refine wpT 11 rfl ?_
    try simp only [Act.put, tS]
    refine wpT 12 rfl ?_
    try simp only [Act.put, tS]
    refine wpR 13 rfl fun K hK => ?_
    go_simp
    refine hK.out _ _ ?_ (fun hHeld => ?_)
    ·try dsimp only
     all_goals trivial
    clear hK K
    try simp only [Act.put, tS]
    refine wpAnyH_done (by kernel_rfl) ?_ _
    go_wp2_with fail
    go_meet
    refine ⟨m0, ml, mc, n0, nl, nc, (A3.out.set 8 _).set 11 _, Blk.far (Blk.far R3.out (a := ⟨w.heap.size, 8, none⟩) (Nat.succ_ne_self _) _) (a := ⟨w.heap.size, 11, none⟩) (Nat.succ_ne_self _) _, ?_, ?_, (B3.out.setCell (p := ⟨w.heap.size, 8, none⟩) (Nat.le_refl _) _).setCell (p := ⟨w.heap.size, 11, none⟩) (Nat.le_refl _) _⟩
    ·exact OwB.farC (OwB.farC (OwB.mono O2b.out (by omega)) (a := ⟨w.heap.size, 8, none⟩) (show w.heap.size < w.heap.size + 2 by omega) _) (a := ⟨w.heap.size, 11, none⟩) (show w.heap.size < w.heap.size + 2 by omega) _
    ·exact OwB.farC (OwB.farC (OwB.mono O3.out (by omega)) (a := ⟨w.heap.size, 8, none⟩) (show w.heap.size < w.heap.size + 2 by omega) _) (a := ⟨w.heap.size, 11, none⟩) (show w.heap.size < w.heap.size + 2 by omega) _
  ·go_simp
   refine hK.out _ _ ?_ (fun hHeld => ?_)
   ·try dsimp only
    all_goals trivial
   clear hK K
   try simp only [Act.put, tS]
   refine wpR 2 rfl fun K hK => ?_
   go_simp
   refine hK.out _ _ ?_ (fun hHeld => ?_)
   ·try dsimp only
    all_goals trivial
   clear hK K
   try simp only [Act.put, tS]
   refine wpR 3 rfl fun K hK => ?_
   go_simp
   refine (clone_any _ c.b _ (S1.out.keep (Keep.drew (Keep.refl (fun _ => False) _)) (fun _ _ _ => id)) hl1).mono ?_
   rintro e w2 ⟨u2, rfl, o2, b2⟩
   obtain ⟨m0, ml, mc, rfl⟩ := o2.isSliceC
   have B12 : Below w1.heap.size w1 w2 := bel_drew0 b2
   have z2 : w1.heap.size ≤ w2.heap.size := B12.size
   have R11b : w2.cell? ⟨w.heap.size, 11, none⟩ = some (.slice t0 tl tc) := (B12.cell (p := ⟨w.heap.size, 11, none⟩) y0).trans R11
   have O2 := Lib.hid (OwB.mono o2 (show w1.heap.size ≤ _ from Nat.le_refl _))
   clear b2 o2
   go_wp2_with fail
   refine hK.out _ _ ?_ (fun hHeld => ?_)
   ·try dsimp only
    all_goals trivial
   clear hK K
   try simp only [Act.put, tS]
   refine wpT 8 rfl ?_
   try simp only [Act.put, tS]
   refine wpT 9 rfl ?_
   try simp only [Act.put, tS]
   refine wpR 7 rfl fun K hK => ?_
   go_simp
   refine (clone_any _ x.b _ (S2.out.below B12) hl2).mono ?_
   rintro e w3 ⟨u3, rfl, o3, b3⟩
   obtain ⟨n0, nl, nc, rfl⟩ := o3.isSliceC
   have z3 := b3.size
   have A3 := Lib.hid ((HA.out.below B12 y0).below b3 (by omega))
   have f8 := A3.out.frozen 8
   have f11 := A3.out.frozen 11
   have e8 := A3.out.cell 8
   have e11 := A3.out.cell 11
   simp only [List.getElem?_cons_zero, List.getElem?_cons_succ] at e8 e11
   have y3 : w.heap.size < w3.heap.size := by omega
   have O2b := Lib.hid (O2.out.below b3)
   have O3 := Lib.hid o3
   have R3 := Lib.hid ((HR.out.below B12 y1).below b3 (by omega))
   have B3 := Lib.hid ((HB.out.trans (B12.mono (by omega))).trans (b3.mono (by omega)))
   clear o3 b3 B12 R11b R8 R11 hHeld
   go_wp2_with fail
   refine hK.out _ _ ?_ (fun hHeld => ?_)
   ·try dsimp only
    all_goals trivial
   clear hK K
   try simp only [Act.put, tS]
   refine wpR 10 rfl fun K hK => ?_
   go_simp
   refine hK.out _ _ ?_ (fun hHeld => ?_)
   ·try dsimp only
    all_goals trivial
   clear hK K
   try simp only [Act.put, tS]
   refine wpT 11 rfl ?_
   try simp only [Act.put, tS]
   refine wpT 12 rfl ?_
   try simp only [Act.put, tS]
   refine wpR 13 rfl fun K hK => ?_
   go_simp
   refine hK.out _ _ ?_ (fun hHeld => ?_)
   ·try dsimp only
    all_goals trivial
   clear hK K
   try simp only [Act.put, tS]
   refine wpAnyH_done (by kernel_rfl) ?_ _
   go_wp2_with fail
   go_meet
   refine ⟨m0, ml, mc, n0, nl, nc, (A3.out.set 8 _).set 11 _, Blk.far (Blk.far R3.out (a := ⟨w.heap.size, 8, none⟩) (Nat.succ_ne_self _) _) (a := ⟨w.heap.size, 11, none⟩) (Nat.succ_ne_self _) _, ?_, ?_, (B3.out.setCell (p := ⟨w.heap.size, 8, none⟩) (Nat.le_refl _) _).setCell (p := ⟨w.heap.size, 11, none⟩) (Nat.le_refl _) _⟩
   ·exact OwB.farC (OwB.farC (OwB.mono O2b.out (by omega)) (a := ⟨w.heap.size, 8, none⟩) (show w.heap.size < w.heap.size + 2 by omega) _) (a := ⟨w.heap.size, 11, none⟩) (show w.heap.size < w.heap.size + 2 by omega) _
   ·exact OwB.farC (OwB.farC (OwB.mono O3.out (by omega)) (a := ⟨w.heap.size, 8, none⟩) (show w.heap.size < w.heap.size + 2 by omega) _) (a := ⟨w.heap.size, 11, none⟩) (show w.heap.size < w.heap.size + 2 by omega) _
 case rest =>
  obtain ⟨m0, ml, mc, n0, nl, nc, a2, r2, o1, o2, b2⟩ := hcut
  obtain ⟨e0, e1, e2, e3, e4, e5, e6, e7, e8, e9, e10, e11⟩ := a2.c12
  obtain ⟨f0, f1, f2, f3, f4, f5, f6, f7, f8, f9, f10, f11⟩ := r2.f12
  obtain ⟨g0, g1, g2, g3, g4, g5, g6, g7, g8, g9, g10, g11⟩ := r2.c12
  have RR := Lib.hid r2
  have O1 := Lib.hid o1
  have O2 := Lib.hid o2
  have B2 := Lib.hid b2
  clear a2 r2 o1 o2 b2
  go_wp2
  refine bodyPost_ret (v := evV pk pa pn c (.slice m0 ml mc) x (.slice n0 nl nc)) (res_ev (q := w.heap.size + 1) rfl rfl ?_) rfl ⟨m0, ml, mc, n0, nl, nc, rfl, ?_, ?_, ?_⟩
  ·exact ((((((((((((RR.out.set 0 (.int .i64 pk)).set 1 (.int .i64 pa)).set 2 (.int .i64 pn)).set 3 (.int .i64 c.k)).set 4 (.int .i64 c.a)).set 5 (.int .i64 c.n)).set 6 (.int .u64 c.v)).set 7 (.int .u64 c.x)).set 8 (.slice m0 ml mc)).set 9 (.int .u64 x.v)).set 10 (.bool x.d)).set 11 (.slice n0 nl nc))
  ·refine OwB.mono (B := w.heap.size + 2) ?_ (by omega)
   iterate 12 (refine OwB.farC ?_ (by show w.heap.size + 1 < w.heap.size + 2; omega) _)
   exact O1.out
  ·refine OwB.mono (B := w.heap.size + 2) ?_ (by omega)
   iterate 12 (refine OwB.farC ?_ (by show w.heap.size + 1 < w.heap.size + 2; omega) _)
   exact O2.out
  ·iterate 12 (refine Below.setCell ?_ (by show w.heap.size ≤ w.heap.size + 1; omega) _)
   exact B2.out
theorem evinfo : (Tryz.prog.info? 76).map (fun i => (i.zero, i.size, i.bytes)) = some (some (.agg #[.int .i64 0, .int .i64 0, .int .i64 0, .int .i64 0, .int .i64 0, .int .i64 0, .int .u64 0, .int .u64 0, .slice none 0 0, .int .u64 0, .bool false, .slice none 0 0]), 12, 128) := by kernel_rfl
theorem wp_app1 {o : Oper} {a : Act} {K : Act → World → Prop} {Q : Exit → Act → World → Prop} (s x : Operand) (T E : TypeId)
  (ho : o.op = .call { callee := .builtin .append, args := #[s, x], argTypes := #[T, T] }) {i : TypeInfo} {z : Value} {size bytes : Nat} (ht : Tryz.prog.underlying T = some (.slice E)) (hi : Tryz.prog.info? E = some i) (hz : i.zero = some z) (hsize : i.size = size) (hby : i.bytes = bytes) (hzs : z.cells.size = size) (hsz : 0 < size)
  (v : Value) (n : Nat) (xs : List Value) (hs : a.eval s = v) (hown : w.ownsRow 0 E size v n xs) (g : Nat) (news : List Value) (hx : a.eval x = .slice (some ⟨g, 0, none⟩) 1 1) (hb : Blk w g news) (hl : news.length = size) (h1 : ∀ u ∈ news, u.oneCell' = true) (hn : (n + 1) * bytes ≤ 140737488355328) (hm : n + 1 ≤ maxLen)
  (h : ∀ v' w', w'.ownsRow 0 E size v' (n + 1) (xs ++ news) → w.grownBy w' v.ownBlock → (v'.ownBlock = v.ownBlock ∨ v'.ownBlock = some w.heap.size) → K (a.put o.dst v') w') : o.wp Tryz.prog a w K Q := by
 have hnews : ∀ j u, news[j]? = some u → w.cell? ((⟨g, 0, none⟩ : Addr).add j) = some u := by
  intro j u hu
  have e : (⟨g, 0, none⟩ : Addr).add j = ⟨g, 0 + j, none⟩ := by unfold Addr.add; split <;> simp_all
  rw [e, Nat.zero_add, hb.cell]
  exact hu
 obtain ⟨v', w', hr, h2, h3, _, h5⟩ := run_append_own_at (P := Tryz.prog) w 0 T o.type E i z size bytes ht hi hz hsize hby hzs hsz v n xs hown ⟨g, 0, none⟩ 1 1 news (by rw [hl, Nat.one_mul]) hnews h1 hm hn (Nat.zero_le _)
 unfold Oper.wp execOp
 simp only [ho, resolve, invoke, builtin, Sem.run_bind, Sem.run_pure, Result.andThen_ok, List.map_toArray, List.map_cons, List.map_nil, hs, hx, hr]
 exact h v' w' h2 h3 h5
theorem grown_keep {w w' : World} {v : Value} (h : w.grownBy w' v.ownBlock) : Keep (fun i => v.ownBlock = some i) w w' :=
 ⟨h.os, h.tape, h.output, h.size, fun k hk hm => h.block k hk (fun e => hm e.symm)⟩
noncomputable def kdT (κ : Nat → Kd) (tv sv sx : Value) : Nat → Kd := fun k => open Classical in if tv.ownBlock = some k then .tr else if sv.ownBlock = some k ∨ sx.ownBlock = some k then .tb else κ k
theorem WoIn.traced {S : SW C.M.σ} (h : WoIn C w κ W p c av tv ab S) (es : List (Ev × Value × Value)) (he : es.map (·.1) = S.tr) (hb : ∀ i, tv.ownBlock = some i → κ i = .tr) (hes : EvsIn w κ .tb es)
  (ev : Ev) (sv sx : Value) (r1 : RdB w sv ev.c.b) (r2 : RdB w sx ev.x.b) (kn : ∀ i, sv.ownBlock = some i ∨ sx.ownBlock = some i → κ i = .no ∧ i < w.heap.size) {w1 : World} {tv' : Value} (k : Keep (fun i => tv.ownBlock = some i) w w1) (hown : w1.ownsRow 0 76 12 tv' (es.length + 1) (es.flatMap evL ++ evL (ev, sv, sx))) (hv : tv'.ownBlock = tv.ownBlock ∨ ∃ i, tv'.ownBlock = some i ∧ w.heap.size ≤ i) :
  WoIn C (w1.setCell ⟨W, 3, none⟩ tv') (kdT κ tv' sv sx) W p c av tv' ab { S with tr := S.tr ++ [ev] } := by
 have hnew : ∀ i, tv'.ownBlock = some i → κ i = .tr ∨ w.heap.size ≤ i := by
  intro i hi
  rcases hv with e | ⟨j, e, hj⟩
  ·exact .inl (hb i (e ▸ hi))
  ·rw [e] at hi
   cases hi
   exact .inr hj
 have hK : Keep (fun i => tv.ownBlock = some i ∨ i = W) w (w1.setCell ⟨W, 3, none⟩ tv') := Keep.setCell (k.mono fun _ _ => .inl) (p := ⟨W, 3, none⟩) (.inl (.inr rfl)) _
 have same : ∀ i, κ i ≠ .no → κ i ≠ .tr → κ i ≠ .tb → kdT κ tv' sv sx i = κ i := by
  intro i h1 h2 h3
  unfold kdT
  rw [if_neg, if_neg]
  ·exact fun hi => h1 (kn i hi).1
  ·intro hi
   rcases hnew i hi with e | e
   ·exact h2 e
   ·exact absurd (h.all i h1) (by omega)
 have ntr : ∀ i, κ i ≠ .tr → ¬ tv.ownBlock = some i := fun i hi e => hi (hb i e)
 have nK : ∀ i, κ i ≠ .tr → κ i ≠ .wo → ¬ (tv.ownBlock = some i ∨ i = W) := by
  rintro i h1 h2 (e | e)
  ·exact h1 (hb i e)
  ·exact h2 (e ▸ h.kW)
 have hWne : tv'.ownBlock ≠ some W := by
  intro e
  rcases hnew W e with e | e
  ·rw [h.kW] at e
   cases e
  ·have := h.hd.lt
   omega
 refine ⟨?_, by rw [same _ (by rw [h.kW]; nofun) (by rw [h.kW]; nofun) (by rw [h.kW]; nofun)]; exact h.kW, h.buf.keep hK (nK _ (by rw [h.kp]; nofun) (by rw [h.kp]; nofun)) (nK _ (by rw [h.kc]; nofun) (by rw [h.kc]; nofun)), by rw [same _ (by rw [h.kp]; nofun) (by rw [h.kp]; nofun) (by rw [h.kp]; nofun)]; exact h.kp, by rw [same _ (by rw [h.kc]; nofun) (by rw [h.kc]; nofun) (by rw [h.kc]; nofun)]; exact h.kc, ?_, ?_, ?_, ?_⟩
 ·exact (h.hd.keep k (ntr _ (by rw [h.kW]; nofun))).set 3 tv'
 ·refine h.row.imp id ?_
  rintro ⟨g, cap, e1, e2, e3, e4, e5⟩
  exact ⟨g, cap, e1, e2, e3, by rw [same _ (by rw [e4]; nofun) (by rw [e4]; nofun) (by rw [e4]; nofun)]; exact e4, fun j hj => (hK.cell _ (h.all g (by rw [e4]; nofun)) (nK _ (by rw [e4]; nofun) (by rw [e4]; nofun))).trans (e5 j hj)⟩
 ·intro i a hi
  obtain ⟨e, mv, hA, hm⟩ := h.act i a hi
  refine ⟨by rw [same _ (by rw [e]; nofun) (by rw [e]; nofun) (by rw [e]; nofun)]; exact e, mv, hA.keep hK (nK _ (by rw [e]; nofun) (by rw [e]; nofun)), ?_⟩
  have hm' := hm.keep hK (fun l hl => nK l (by rw [hl]; nofun) (by rw [hl]; nofun))
  cases ham : a.m with
  | none =>
   rw [ham] at hm'
   exact hm'
  | some s2 =>
   rw [ham] at hm'
   obtain ⟨q2, e2, hi2⟩ := hm'
   refine ⟨q2, e2, C.mono hi2 (fun l hl => by rw [same l (by rw [hl]; nofun) (by rw [hl]; nofun) (by rw [hl]; nofun)]; exact hl) ?_⟩
   intro l hl
   by_cases hl' : κ l = .ma i
   ·exact Nat.lt_of_lt_of_le (h.all l (by rw [hl']; nofun)) hK.size
   ·unfold kdT at hl
    split at hl
    ·cases hl
    split at hl
    ·cases hl
    ·exact absurd hl hl'
 ·refine ⟨es ++ [(ev, sv, sx)], by simp [he], ?_, ?_, ?_⟩
  ·have e := ownsRow_keep hown (Keep.setCell (M := (· = W)) (Keep.refl _ w1) (p := ⟨W, 3, none⟩) (.inl rfl) tv') (fun i hi e => hWne (e ▸ hi))
   simpa using e
  ·intro i hi
   unfold kdT
   rw [if_pos hi]
  ·have old : ∀ i, κ i = .tb → kdT κ tv' sv sx i = .tb := by
    intro i hi
    unfold kdT
    rw [if_neg]
    ·split
     ·rfl
     ·exact hi
    ·intro e
     rcases hnew i e with e | e
     ·rw [hi] at e
      cases e
     ·exact absurd (h.all i (by rw [hi]; nofun)) (by omega)
   have nu : ∀ i, sv.ownBlock = some i ∨ sx.ownBlock = some i → kdT κ tv' sv sx i = .tb := by
    intro i hi
    unfold kdT
    rw [if_neg, if_pos hi]
    intro e
    have hn := kn i hi
    rcases hnew i e with e | e
    ·rw [hn.1] at e
     cases e
    ·omega
   have nuK : ∀ i, sv.ownBlock = some i ∨ sx.ownBlock = some i → ¬ (tv.ownBlock = some i ∨ i = W) := by
    intro i hi
    have hn := (kn i hi).1
    exact nK i (by rw [hn]; nofun) (by rw [hn]; nofun)
   have hes' := hes.keep (κ' := kdT κ tv' sv sx) hK (fun i hi => nK i (by rw [hi]; nofun) (by rw [hi]; nofun)) old
   refine ⟨?_, ?_, ?_, ?_⟩
   ·intro e hm
    rcases List.mem_append.1 hm with hm | hm
    ·exact hes'.r1 e hm
    ·obtain rfl := List.mem_singleton.1 hm
     exact r1.keep hK fun _ i hi => nuK i (.inl hi)
   ·intro e hm
    rcases List.mem_append.1 hm with hm | hm
    ·exact hes'.r2 e hm
    ·obtain rfl := List.mem_singleton.1 hm
     exact r2.keep hK fun _ i hi => nuK i (.inr hi)
   ·intro e hm
    rcases List.mem_append.1 hm with hm | hm
    ·exact hes'.k1 e hm
    ·obtain rfl := List.mem_singleton.1 hm
     exact fun i hi => nu i (.inl hi)
   ·intro e hm
    rcases List.mem_append.1 hm with hm | hm
    ·exact hes'.k2 e hm
    ·obtain rfl := List.mem_singleton.1 hm
     exact fun i hi => nu i (.inr hi)
 ·intro i hi
  have hsz := hK.size
  unfold kdT at hi
  split at hi
  ·rename_i e
   have hl := (World.ownsRow.lt hown i e).2
   simpa [World.setCell] using hl
  split at hi
  ·rename_i e
   have := (kn i e).2
   omega
  ·have := h.all i hi
   omega
theorem res_ev2 {tmps : Array Value} {W : World} {p q r : Nat} {pk pa pn : Int} {c : AA} {s0 t0 : Option Addr} {sl sc tl tc : Nat} {x : AN} {E : Value} (hf : fn.results = #[.cell p 76, .tmp r]) (hp : tmps.getD p undef = .pointer (some ⟨q, 0, none⟩)) (he : tmps.getD r undef = E)
  (h : Blk W q (evC pk pa pn c (.slice s0 sl sc) x (.slice t0 tl tc))) : (results fn tmps).run Tryz.prog W = .ok (.tuple #[evV pk pa pn c (.slice s0 sl sc) x (.slice t0 tl tc), E]) W := by
 unfold evC at h
 obtain ⟨c0, c1, c2, c3, c4, c5, c6, c7, c8, c9, c10, c11⟩ := h.c12
 clear h
 rw [results_cell_tmp hf, hp, he]
 go_simp
 rfl
end Go.Proofs.YtggjhleomocojaaGreat
end
