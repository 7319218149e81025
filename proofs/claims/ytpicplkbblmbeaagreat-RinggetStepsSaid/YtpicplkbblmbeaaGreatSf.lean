/- Contract of sched.World.act. Conditions: as it says. -/
import Derived.Test.YtpicplkbblmbeaaGreatSe
namespace Go.Proofs.YtpicplkbblmbeaaGreat
set_option maxRecDepth 100000
open Go.RowKit
set_option linter.unusedVariables false
set_option linter.unusedSimpArgs false
theorem WoIn.actLt {C : Fam} {w : World} {κ : Nat → Kd} {W p c : Nat} {av tv : Value} {ab : Nat → Nat} {S : SW C.M.σ} (h : WoIn C w κ W p c av tv ab S) {i : Nat} {a : Ac C.M.σ} (hi : S.acts[i]? = some a) : ab i < w.heap.size :=
  h.all _ (by rw [(h.act i a hi).1]; nofun)
/-- An actor is dead from now on. -/
theorem WoIn.kill {C : Fam} {w : World} {κ : Nat → Kd} {W p c : Nat} {av tv : Value} {ab : Nat → Nat} {S : SW C.M.σ} (h : WoIn C w κ W p c av tv ab S) {i : Nat} {a : Ac C.M.σ} (hi : S.acts[i]? = some a) {w' : World}
    (k : Keep (· = ab i) w w') (hb : ∀ mv, Blk w (ab i) [mv, .bool a.dead] → Blk w' (ab i) [mv, .bool true]) : WoIn C w' κ W p c av tv ab { S with acts := S.acts.set i ⟨a.m, true⟩ } := by
  have ha := (h.act i a hi).1
  have ne : ∀ j, κ j ≠ .ac i → ¬ j = ab i := fun j hj e => hj (e ▸ ha)
  refine ⟨h.hd.keep k (ne _ (by rw [h.kW]; nofun)), h.kW, h.buf.keep k (ne _ (by rw [h.kp]; nofun)) (ne _ (by rw [h.kc]; nofun)), h.kp, h.kc, ?_, ?_, h.tr.keep k (fun j hj => ne _ (by rcases hj with hj | hj <;> rw [hj] <;> nofun)) (fun _ _ => rfl), fun j hj => Nat.lt_of_lt_of_le (h.all j hj) k.size⟩
  · simp only [List.length_set]
    refine h.row.imp id ?_
    rintro ⟨g, cap, e1, e2, e3, e4, e5⟩
    exact ⟨g, cap, e1, e2, e3, e4, fun j hj => (k.cell _ (h.all g (by rw [e4]; nofun)) (ne _ (by rw [e4]; nofun))).trans (e5 j hj)⟩
  · intro j b hj
    by_cases hij : i = j
    · subst hij
      have hlt : i < S.acts.length := (List.getElem?_eq_some_iff.1 hi).1
      simp only [List.getElem?_set_self hlt, Option.some.injEq] at hj
      subst hj
      obtain ⟨mv, h1, h2⟩ := (h.act i a hi).2
      exact ⟨ha, mv, hb mv h1, h2.keep k (fun l hl => ne _ (by rw [hl]; nofun))⟩
    · rw [List.getElem?_set_ne hij] at hj
      obtain ⟨e, hA⟩ := h.act j b hj
      exact ⟨e, hA.keep k (fun l hl => ne _ (by rw [hl]; nofun)) (ne _ (by rw [e]; intro he; cases he; exact hij rfl))⟩
/-- The blocks from B on are machine i's from now on. -/
def kdM (κ : Nat → Kd) (i B E : Nat) : Nat → Kd := fun k => if B ≤ k ∧ k < E then .ma i else κ k
theorem kdM_old {κ : Nat → Kd} {i B E k : Nat} (h : k < B) : kdM κ i B E k = κ k := by
  unfold kdM
  rw [if_neg (by omega)]
/-- A machine has gone on, and the buffer has turned. -/
theorem WoIn.mach {C : Fam} {w : World} {κ : Nat → Kd} {W p c : Nat} {av tv : Value} {ab : Nat → Nat} {S : SW C.M.σ} (h : WoIn C w κ W p c av tv ab S) {i : Nat} {s s' : C.M.σ} {d : Bool} (hi : S.acts[i]? = some ⟨some s, d⟩) {w' : World} {xb q B : Nat} {F' : Nat → Prop} {cnt' : Int} {bs' : List Int}
    (k : Keep (fun j => κ j = .ma i ∨ j = xb ∨ j = p ∨ j = c) w w') (hx : κ xb = .no) (hB : w.heap.size ≤ B) (hBuf : Buf w' p c cnt' bs') (hq : Blk w (ab i) [.iface (C.ty s) (.pointer (some ⟨q, 0, none⟩)), .bool d]) (hs : C.inv w' F' q s') (hF : ∀ j, F' j → κ j = .ma i ∨ B ≤ j) (ht : C.ty s' = C.ty s) :
    WoIn C w' (kdM κ i B w'.heap.size) W p c av tv ab { S with bs := bs', cnt := cnt', acts := S.acts.set i ⟨some s', d⟩ } := by
  have ha := (h.act i _ hi).1
  have old : ∀ j, κ j ≠ .no → kdM κ i B w'.heap.size j = κ j := fun j hj => kdM_old (Nat.lt_of_lt_of_le (h.all j hj) hB)
  have ne : ∀ j, κ j ≠ .no → κ j ≠ .ma i → κ j ≠ .bu → ¬ (κ j = .ma i ∨ j = xb ∨ j = p ∨ j = c) := by
    rintro j h1 h2 h3 (e | e | e | e)
    · exact h2 e
    · exact h1 (e ▸ hx)
    · exact h3 (e ▸ h.kp)
    · exact h3 (e ▸ h.kc)
  have dom := C.dom hs
  refine ⟨h.hd.keep k (ne _ (by rw [h.kW]; nofun) (by rw [h.kW]; nofun) (by rw [h.kW]; nofun)), by rw [old _ (by rw [h.kW]; nofun)]; exact h.kW, hBuf, by rw [old _ (by rw [h.kp]; nofun)]; exact h.kp, by rw [old _ (by rw [h.kc]; nofun)]; exact h.kc, ?_, ?_, ?_, ?_⟩
  · simp only [List.length_set]
    refine h.row.imp id ?_
    rintro ⟨g, cap, e1, e2, e3, e4, e5⟩
    exact ⟨g, cap, e1, e2, e3, by rw [old _ (by rw [e4]; nofun)]; exact e4, fun j hj => (k.cell _ (h.all g (by rw [e4]; nofun)) (ne _ (by rw [e4]; nofun) (by rw [e4]; nofun) (by rw [e4]; nofun))).trans (e5 j hj)⟩
  · intro j b hj
    by_cases hij : i = j
    · subst hij
      have hlt : i < S.acts.length := (List.getElem?_eq_some_iff.1 hi).1
      simp only [List.getElem?_set_self hlt, Option.some.injEq] at hj
      subst hj
      refine ⟨by rw [old _ (by rw [ha]; nofun)]; exact ha, _, hq.keep k (ne _ (by rw [ha]; nofun) (by rw [ha]; nofun) (by rw [ha]; nofun)), q, by rw [ht], C.mono hs ?_ ?_⟩
      · intro l hl
        rcases hF l hl with hl' | hl'
        · rw [old _ (by rw [hl']; nofun)]; exact hl'
        · unfold kdM
          rw [if_pos ⟨hl', dom.2 l hl⟩]
      · intro l hl
        unfold kdM at hl
        split at hl
        · omega
        · exact Nat.lt_of_lt_of_le (h.all l (by rw [hl]; nofun)) k.size
    · rw [List.getElem?_set_ne hij] at hj
      obtain ⟨e, mv, hA, hm⟩ := h.act j b hj
      have hne : Kd.ma j ≠ .ma i := by intro he; cases he; exact hij rfl
      refine ⟨by rw [old _ (by rw [e]; nofun)]; exact e, mv, hA.keep k (ne _ (by rw [e]; nofun) (by rw [e]; nofun) (by rw [e]; nofun)), ?_⟩
      have hm' := hm.keep k (fun l hl => ne l (by rw [hl]; nofun) (by rw [hl]; exact hne) (by rw [hl]; nofun))
      cases hbm : b.m with
      | none =>
        rw [hbm] at hm'
        exact hm'
      | some s2 =>
        rw [hbm] at hm'
        obtain ⟨q2, e2, hi2⟩ := hm'
        refine ⟨q2, e2, C.mono hi2 (fun l hl => by rw [old _ (by rw [hl]; nofun)]; exact hl) ?_⟩
        intro l hl
        unfold kdM at hl
        split at hl
        · cases hl
          exact absurd rfl hij
        · exact Nat.lt_of_lt_of_le (h.all l (by rw [hl]; nofun)) k.size
  · exact h.tr.keep k (fun j hj => ne j (by rcases hj with hj | hj <;> rw [hj] <;> nofun) (by rcases hj with hj | hj <;> rw [hj] <;> nofun) (by rcases hj with hj | hj <;> rw [hj] <;> nofun)) (fun j hj => old j (by rcases hj with hj | hj <;> rw [hj] <;> nofun))
  · intro j hj
    unfold kdM at hj
    split at hj
    · omega
    · exact Nat.lt_of_lt_of_le (h.all j hj) k.size
/-- What act leaves. -/
def ActPost (C : Fam) (w : World) (κ : Nat → Kd) (W p c : Nat) (av tv : Value) (ab : Nat → Nat) (xb : Nat) (pk pa pn : Int) (R : SW C.M.σ × (AA × AN) × Int) (e : Ending) (w' : World) : Prop :=
  e = .returned (.int .i64 R.2.2) ∧ ∃ κ' sv sx, WoIn C w' κ' W p c av tv ab R.1 ∧ (∀ i, i < w.heap.size → κ' i = κ i) ∧
    (R.2.2 = 0 → Blk w' xb (evC pk pa pn R.2.1.1 sv R.2.1.2 sx) ∧ RdB w' sv R.2.1.1.b ∧ RdB w' sx R.2.1.2.b ∧ ∀ i, sv.ownBlock = some i ∨ sx.ownBlock = some i → (w.heap.size ≤ i ∧ i < w'.heap.size) ∧ κ' i = .no) ∧ Keep (fun i => κ i ≠ .no ∨ i = xb) w w'
theorem beqTrue {a b : Int} (h : a = b) : (a == b) = true := by simp [h]
set_option maxHeartbeats 1000000 in
theorem wAct_any {C : Fam} {w : World} {κ : Nat → Kd} {W p c : Nat} {av tv : Value} {ab : Nat → Nat} {S : SW C.M.σ} (h : WoIn C w κ W p c av tv ab S) (xb : Nat) (k a n : Int) (hx : Blk w xb (evC k a n aaZ nilSl anZ nilSl)) (hκ : κ xb = .no) (hc0 : 0 ≤ S.cnt) (hc1 : S.cnt ≤ 4611686018427387904) :
    Calls Tryz.prog 90 #[.pointer (some ⟨W, 0, none⟩), .agg #[.int .i64 k, .int .i64 a, .int .i64 n], .pointer (some ⟨xb, 0, none⟩)] w (ActPost C w κ W p c av tv ab xb k a n (C.M.act S k a)) := by
  by_cases hr : a < 0 ∨ (S.acts.length : Int) ≤ a
  · have hR : C.M.act S k a = (S, (aaZ, anZ), 2) := by
      unfold Mac.act
      by_cases h0 : a < 0
      · rw [if_pos h0]
      · rw [if_neg h0, List.getElem?_eq_none (by omega)]
    rw [hR]
    have H := Lib.hid h
    clear h hx
    go_enter Tryz.func90, Tryz.ntmps90
    go_wp2_with fail
    refine (wAt_none (H.out.below ((Below.refl _ _).alloc (Nat.le_refl _) _)) a hr).mono ?_
    rintro e w' ⟨rfl, rfl⟩
    go_wp2
    go_ret
    have b := (Below.refl w.heap.size w).alloc (Nat.le_refl _) (.cells #[.int .i64 k, .int .i64 a, .int .i64 n] 62)
    exact ⟨rfl, κ, nilSl, nilSl, H.out.below b, fun _ _ => rfl, (fun h => absurd (show (2 : Int) = 0 from h) (by decide)), Below.keeps b⟩
  obtain ⟨i, rfl⟩ := Int.eq_ofNat_of_zero_le (show 0 ≤ a by omega)
  have hil : i < S.acts.length := by omega
  obtain ⟨A, hA⟩ : ∃ A, S.acts[i]? = some A := ⟨_, List.getElem?_eq_getElem hil⟩
  have hact : C.M.act S k i = if A.dead = true then (S, (aaZ, anZ), 11) else if k = 1 then ({ S with acts := S.acts.set i ⟨A.m, true⟩ }, (aaZ, anZ), 0) else C.M.stepA S i A := by
    unfold Mac.act
    rw [if_neg (by omega), Int.toNat_natCast, hA]
  obtain ⟨ha, mv, hb, hm⟩ := h.act i A hA
  have hal := h.actLt hA
  have H := Lib.hid h
  have HX := Lib.hid hx
  have HBb := Lib.hid hb
  have hxl := hx.lt
  by_cases hd : A.dead = true
  · have hR : C.M.act S k i = (S, (aaZ, anZ), 11) := by rw [hact, if_pos hd]
    rw [hR]
    rw [hd] at hb
    have y1 := hb.cell 1
    simp only [List.getElem?_cons_zero, List.getElem?_cons_succ] at y1
    have hane : ab i ≠ w.heap.size := by omega
    clear h hx hb hact hm
    go_enter Tryz.func90, Tryz.ntmps90
    go_wp2_with fail
    refine (wAt_some (H.out.below ((Below.refl _ _).alloc (Nat.le_refl _) _)) i hil).mono ?_
    rintro e w' ⟨rfl, rfl⟩
    go_wp2
    go_ret
    have b := (Below.refl w.heap.size w).alloc (Nat.le_refl _) (.cells #[.int .i64 k, .int .i64 i, .int .i64 n] 62)
    exact ⟨rfl, κ, nilSl, nilSl, H.out.below b, fun _ _ => rfl, (fun h => absurd (show (11 : Int) = 0 from h) (by decide)), Below.keeps b⟩
  · have hdf : A.dead = false := by simpa using hd
    have y1 := hb.cell 1
    have g1 := hb.frozen 1
    simp only [List.getElem?_cons_zero, List.getElem?_cons_succ, hdf] at y1
    have b := (Below.refl w.heap.size w).alloc (Nat.le_refl _) (.cells #[.int .i64 k, .int .i64 i, .int .i64 n] 62)
    have BB := Lib.hid b
    clear b
    by_cases hk : k = 1
    · have hR : C.M.act S k i = ({ S with acts := S.acts.set i ⟨A.m, true⟩ }, (aaZ, anZ), 0) := by rw [hact, if_neg hd, if_pos hk]
      rw [hR]
      subst hk
      clear h hx hb hact hm hR hdf
      go_enter Tryz.func90, Tryz.ntmps90
      go_wp2_with fail
      refine (wAt_some (H.out.below ((Below.refl _ _).alloc (Nat.le_refl _) _)) i hil).mono ?_
      rintro e w' ⟨rfl, rfl⟩
      go_wp2
      go_ret
      have hxab : xb ≠ ab i := fun e => by rw [e, ha] at hκ; cases hκ
      have hkill := H.out.kill hA (Keep.setCell (M := (· = ab i)) (Keep.refl _ w) (p := ⟨ab i, 1, none⟩) (.inl rfl) (.bool true)) (fun mv hmv => hmv.set 1 _)
      have hbl : Below (w.setCell ⟨ab i, 1, none⟩ (.bool true)).heap.size (w.setCell ⟨ab i, 1, none⟩ (.bool true)) ((w.setCell ⟨ab i, 1, none⟩ (.bool true)).alloc (.cells #[.int .i64 1, .int .i64 i, .int .i64 n] 62)) := (Below.refl _ _).alloc (Nat.le_refl _) _
      refine ⟨rfl, κ, nilSl, nilSl, hkill.below hbl, fun _ _ => rfl, fun _ => ⟨(Blk.far HX.out (a := ⟨ab i, 1, none⟩) hxab _).alloc _, .inl ⟨rfl, rfl⟩, .inl ⟨rfl, rfl⟩, (fun j hj => by rcases hj with hj | hj <;> cases hj)⟩, ?_⟩
      exact (Keep.setCell (Keep.refl _ w) (p := ⟨ab i, 1, none⟩) (.inl (.inl (by show κ (ab i) ≠ _; rw [ha]; nofun))) _).alloc _
    · have hR : C.M.act S k i = C.M.stepA S i A := by rw [hact, if_neg hd, if_neg hk]
      rw [hR]
      have hkb : (k == 1) = false := by simpa using hk
      have HM := Lib.hid hm
      have HDF := Lib.hid hdf
      have HW := Lib.hid h.hd
      have HBuf := Lib.hid h.buf
      have KW := Lib.hid h.kW
      have KP := Lib.hid h.kp
      have KC := Lib.hid h.kc
      have hbb := hb
      rw [hdf] at hbb
      have HBf := Lib.hid hbb
      clear h hx hb hbb hact hm hR hdf
      have key : Calls Tryz.prog 153 #[.pointer (some ⟨W, 0, none⟩), .pointer (some ⟨ab i, 0, none⟩), .pointer (some ⟨xb, 0, none⟩)] (w.alloc (.cells #[.int .i64 k, .int .i64 i, .int .i64 n] 62)) (ActPost C w κ W p c av tv ab xb k i n (C.M.stepA S i A)) := by
        obtain ⟨w1, hw1⟩ : ∃ w1, w1 = w.alloc (.cells #[.int .i64 k, .int .i64 i, .int .i64 n] 62) := ⟨_, rfl⟩
        have B1 : Below w.heap.size w w1 := by rw [hw1]; exact BB.out
        rw [← hw1]
        clear hw1
        have h1 := H.out.below B1
        obtain ⟨m, dd⟩ := A
        obtain rfl : dd = false := HDF.out
        by_cases hlv : C.M.lives ⟨m, false⟩ = false
        · have hs : C.M.stepA S i ⟨m, false⟩ = (S, (aaZ, anZ), 0) := by
            unfold Mac.stepA
            cases m with
            | none => rfl
            | some s => simp only; rw [if_pos (by simpa [Mac.lives] using hlv)]
          rw [hs]
          refine (wStep_end C (fun k => κ k = .ma i) W (ab i) xb ⟨m, false⟩ w1 (h1.act i _ hA).2 hlv).mono ?_
          rintro e w' ⟨rfl, b2⟩
          exact ⟨rfl, κ, nilSl, nilSl, h1.below b2, fun _ _ => rfl, fun _ => ⟨(HX.out.below B1 hxl).below b2 (Nat.lt_of_lt_of_le hxl B1.size), .inl ⟨rfl, rfl⟩, .inl ⟨rfl, rfl⟩, fun j hj => by rcases hj with hj | hj <;> cases hj⟩, (Below.keeps B1).trans (Below.keeps b2)⟩
        · cases m with
          | none => exact absurd rfl hlv
          | some s =>
            have hl : C.M.live s = true := by simpa [Mac.lives] using hlv
            obtain ⟨q, rfl, hi⟩ := HM.out
            have hi1 : C.inv w1 (fun k => κ k = .ma i) q s := C.keep hi (Below.keeps (M := fun _ => False) B1) (fun _ _ => id)
            have hb1 := HBf.out.below B1 hal
            have hne : ∀ j, κ j ≠ .no → j ≠ xb := fun j hj e => hj (e ▸ hκ)
            by_cases he : (C.M.want s).err S.bs.length = 0
            · have hs : C.M.stepA S i ⟨some s, false⟩ = ({ S with bs := (C.M.want s).out S.bs, cnt := S.cnt + 1, acts := S.acts.set i ⟨some (C.M.step s ((C.M.want s).ans S.bs)), false⟩ }, (C.M.want s, (C.M.want s).ans S.bs), 0) := by
                simp only [Mac.stepA]
                rw [if_neg (by simp [hl]), if_pos he]
              rw [hs]
              have hbw : Kd.bu ≠ Kd.wo := by nofun
              have hba : Kd.bu ≠ Kd.ac i := by nofun
              refine (wStep_ok C (fun k => κ k = .ma i) W (ab i) xb p c q false s S.cnt S.bs _ k i n w1 (HW.out.below B1 HW.out.lt) hb1 hi1 (HX.out.below B1 hxl) (HBuf.out.belows B1) hc0 hc1 hl he
                ⟨fun e => hne p (by rw [KP.out]; nofun) e.symm, fun e => hne c (by rw [KC.out]; nofun) e.symm, fun e => hne _ (by rw [ha]; nofun) e.symm, fun e => hne W (by rw [KW.out]; nofun) e.symm, fun e => hba (by rw [← KP.out, ← ha, e]), fun e => hba (by rw [← KC.out, ← ha, e]), fun e => hbw (by rw [← KP.out, ← KW.out, e]), fun e => hbw (by rw [← KC.out, ← KW.out, e])⟩
                (fun j hj => ⟨(fun e => by rw [e, KP.out] at hj; cases hj), (fun e => by rw [e, KC.out] at hj; cases hj), (fun e => by rw [e, ha] at hj; cases hj), (fun e => by rw [e, hκ] at hj; cases hj), (fun e => by rw [e, KW.out] at hj; cases hj)⟩)).mono ?_
              rintro e w' ⟨rfl, F', B, sv, sx, hxb, hr1, hr2, hown, hbuf', hinv', hF', ⟨hB', hBw⟩, kp⟩
              have hb1s := B1.size
              refine ⟨rfl, kdM κ i B w'.heap.size, sv, sx, h1.mach hA kp hκ hB' hbuf' hb1 hinv' hF' (C.ts _ _), fun j hj => kdM_old (by omega), fun _ => ⟨hxb, hr1, hr2, fun j hj => ?_⟩, ?_⟩
              · have h3 := hown j hj
                refine ⟨by omega, ?_⟩
                rw [kdM_old h3.2]
                by_cases hn : κ j = .no
                · exact hn
                · have := H.out.all j hn
                  omega
              · refine (Below.keeps B1).then kp fun j _ hj => ?_
                rcases hj with hj | hj | hj | hj
                · exact .inl (by rw [hj]; nofun)
                · exact .inr hj
                · exact .inl (by rw [hj, KP.out]; nofun)
                · exact .inl (by rw [hj, KC.out]; nofun)
            · have hs : C.M.stepA S i ⟨some s, false⟩ = ({ S with acts := S.acts.set i ⟨some s, true⟩ }, (aaZ, anZ), (C.M.want s).err S.bs.length) := by
                simp only [Mac.stepA]
                rw [if_neg (by simp [hl]), if_neg he]
              rw [hs]
              refine (wStep_bad C (fun k => κ k = .ma i) W (ab i) xb p c q false s S.cnt S.bs _ w1 (HW.out.below B1 HW.out.lt) hb1 hi1 (HBuf.out.belows B1) hl he).mono ?_
              rintro e w' ⟨rfl, hb', kp⟩
              refine ⟨rfl, κ, nilSl, nilSl, h1.kill hA kp (fun mv hmv => ?_), fun _ _ => rfl, fun h0 => absurd h0 he, (Below.keeps B1).then kp fun j _ hj => .inl (by rw [show j = ab i from hj, ha]; nofun)⟩
              have e1 := hmv.cell 0
              rw [hb1.cell 0] at e1
              simp only [List.getElem?_cons_zero, Option.some.injEq] at e1
              rw [← e1]
              exact hb'
      have KEY := Lib.hid key
      clear key
      go_enter Tryz.func90, Tryz.ntmps90
      go_wp2_with fail
      refine (wAt_some (H.out.below ((Below.refl _ _).alloc (Nat.le_refl _) _)) i hil).mono ?_
      rintro e w' ⟨rfl, rfl⟩
      go_wp2_with fail
      refine KEY.out.mono ?_
      rintro e w' ⟨rfl, hq⟩
      go_wp2
      go_ret
      exact ⟨rfl, hq⟩
end Go.Proofs.YtpicplkbblmbeaaGreat
