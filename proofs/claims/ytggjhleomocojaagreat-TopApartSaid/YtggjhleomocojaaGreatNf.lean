/- (*cast.Caster).settle. Conditions: as it says. -/
import Derived.Test.YtggjhleomocojaaGreatUe
import Derived.Laws.OwnMore
import Derived.Test.YtggjhleomocojaaGreatSh
import Derived.Deep.RegionHeld3
import Derived.Deep.LoopGhost
import Derived.Deep.DeepCutAuto
import Derived.Test.YtggjhleomocojaaGreatYw
namespace Go.Proofs.YtggjhleomocojaaGreat
set_option maxRecDepth 100000
open Go.RowKit
set_option linter.unusedVariables false
set_option linter.unusedSimpArgs false
theorem RdMs.tail1 {w : World} {L : Nat → Prop} {g off n cap : Nat} {x : Int × List Int} {r : List (Int × List Int)} (h : RdMs w L (.slice (some ⟨g, off, none⟩) n cap) (x :: r)) :
  (cap = 1 → RdMs w L (.slice (some ⟨g, off, none⟩) 0 0) r) ∧ RdMs w L (.slice (some ⟨g, off + 2, none⟩) (n - 1) (cap - 1)) r := by
 rcases h with ⟨_, _, e1, e2, _⟩ | ⟨g', off', cap', e1, e2, e3, e4, e5, e6⟩
 ·cases e2
 cases e1
 simp only [List.length_cons] at e2
 refine ⟨fun hc => ?_, .inr ⟨g, off + 2, cap - 1, by simp, by omega, by omega, e4, e5, fun i y hy => ?_⟩⟩
 ·have : r = [] := List.eq_nil_of_length_eq_zero (by omega)
  rw [this]
  exact .inr ⟨g, off, 0, rfl, Nat.le_refl _, Nat.zero_le _, e4, e5, fun i x hx => by simp at hx⟩
 ·obtain ⟨s0, sl, sc, h1, h2, h3, h4⟩ := e6 (i + 1) y hy
  refine ⟨s0, sl, sc, ?_, ?_, h3, h4⟩
  ·rw [show off + 2 + i * 2 = off + (i + 1) * 2 by omega]
   exact h1
  ·rw [show off + 2 + i * 2 = off + (i + 1) * 2 by omega]
   exact h2
theorem CasB.next {w0 w1 w2 : World} {O0 : Nat → Prop} {q p : Nat} {L : Nat → Prop} {t : CasT} {g off cap n : Nat} {pv dv : Value} {x : Int × List Int} {r : List (Int × List Int)} (h1 : CasB w0 O0 w1 q L (fun _ => False) none t (.pointer none) (.slice (some ⟨g, off, none⟩) n cap) pv dv) (b : Below w1.heap.size w1 w2)
  (hf : SenF w2 (fun k => w1.heap.size ≤ k ∧ k < w2.heap.size) p (SenM.init ⟨t.b, t.s, x.1, x.2⟩)) (hl : t.left = x :: r) :
  ∀ V, (V = .slice (some ⟨g, off + 2, none⟩) (n - 1) (cap - 1) ∨ (cap = 1 ∧ V = .slice (some ⟨g, off, none⟩) 0 0)) → CasB w0 O0 ((w2.setCell ⟨q, 3, none⟩ (ptr p)).setCell ⟨q, 2, none⟩ V) q L (fun k => w1.heap.size ≤ k ∧ k < w2.heap.size) (some (SenM.init ⟨t.b, t.s, x.1, x.2⟩)) { t with left := r } (ptr p) V pv dv := by
 intro V hV
 have S2 := h1.below b
 have hlt := h1.b.lt
 have S3 := S2.set (F1' := fun k => w1.heap.size ≤ k ∧ k < w2.heap.size) (cur' := some (SenM.init ⟨t.b, t.s, x.1, x.2⟩)) (nv' := ptr p) 3 (ptr p) rfl S2.d ⟨p, rfl, hf⟩ (fun h => by omega)
  (fun i hi => ⟨hi.2, fun h => by have := h1.d.ll i h; omega, fun h => by have := World.ownsRow.lt h1.d.od i h; omega, fun h => by have := World.ownsRow.lt h1.d.op i h; omega⟩) (fun i hi => .inr (Nat.le_trans h1.k.size hi.1))
 have hr : RdMs (w2.setCell ⟨q, 3, none⟩ (ptr p)) L V r := by
  have := RdMs.tail1 (hl ▸ S3.d.rl)
  rcases hV with rfl | ⟨hc, rfl⟩
  ·exact this.2
  ·exact this.1 hc
 refine S3.set (t' := { t with left := r }) 2 V rfl ⟨hr, S3.d.op, S3.d.od, S3.d.nd, S3.d.np, S3.d.ll, fun y hy => S3.d.ib y (by rw [hl]; exact List.mem_cons_of_mem _ hy), S3.d.bb, S3.d.bs, ?_⟩ S3.c S3.nq.2 S3.f1 (fun i hi => .inr (Nat.le_trans h1.k.size hi.1))
 have := S3.d.sm
 rw [hl] at this
 simp only [List.length_cons] at this ⊢
 omega
set_option maxHeartbeats 4000000 in
theorem casSettle_any {w0 w : World} {O0 : Nat → Prop} {q : Nat} {L F1 : Nat → Prop} {cur : Option SenM} {t : CasT} {nv lv pv dv : Value} (k : Nat) (hk : t.left.length + 1 ≤ k) (hs : cur ≠ none → t.done.length + t.left.length < 1000000) (h : CasB w0 O0 w q L F1 cur t nv lv pv dv) :
  Calls Tryz.prog 50 #[ptr q] w fun e w' => e = .returned (.tuple #[]) ∧ (∀ m, (casL k cur t).1 = some m → m.live = true) ∧ ((casL k cur t).1 ≠ none → (casL k cur t).2.done.length + (casL k cur t).2.left.length < 1000000) ∧ ∃ F1' nv' lv' pv' dv', CasB w0 O0 w' q L F1' (casL k cur t).1 (casL k cur t).2 nv' lv' pv' dv' := by
 have H := Lib.hid h
 have HK := Lib.hid hk
 have HS := Lib.hid hs
 obtain ⟨R, hR⟩ : ∃ R, R = casL k cur t := ⟨_, rfl⟩
 have HR0 := Lib.hid hR
 rw [← hR]
 clear h hk hR hs
 obtain ⟨j, hj1, hy0, hy1, hy2⟩ : ∃ j, Tryz.prog.info? 2 = some j ∧ j.zero = some (.int .i64 0) ∧ j.size = 1 ∧ j.bytes = 8 := ⟨_, rfl, rfl, rfl, rfl⟩
 obtain ⟨i, hi1, hz0, hz1, hz2⟩ : ∃ i, Tryz.prog.info? 28 = some i ∧ i.zero = some (.int .i64 0) ∧ i.size = 1 ∧ i.bytes = 8 := ⟨_, rfl, rfl, rfl, rfl⟩
 unfold ptr
 go_enter Tryz.func50, Tryz.ntmps50
 go_wp2_with fail
 go_loopg [] (t.left.length + 1) (fun gk wr => ∃ (m : Nat) (cr : Option SenM) (tr : CasT) (Fr : Nat → Prop) (nvr lvr pvr dvr : Value), gk = tr.left.length + 1 ∧ tr.left.length + 1 ≤ m ∧ CasB w0 O0 wr q L Fr cr tr nvr lvr pvr dvr ∧ casL m cr tr = R ∧ (cr ≠ none → tr.done.length + tr.left.length < 1000000))
 case atStart => exact ⟨k, cur, t, F1, nv, lv, pv, dv, rfl, HK.out, H.out, HR0.out.symm, HS.out⟩
 case round =>
  obtain ⟨m, cr, tr, Fr, nvr, lvr, pvr, dvr, hgk0, hgk, hp, hset, hsr⟩ := hrel
  subst hgk0
  have HP := Lib.hid hp
  have HSET := Lib.hid hset
  have ltr := hp.b.lt
  have c3 : wr.cell? ⟨q, 3, none⟩ = some nvr := Blk.cell hp.b 3
  have cc := hp.c
  have HGK := Lib.hid hgk
  have HSR := Lib.hid hsr
  clear hp hset hgk hsr
  cases cr with
  | none =>
   have e : nvr = .pointer none := cc
   subst e
   clear cc
   go_wp2_with fail
   refine (sNext_nil _).mono ?_
   rintro e w1 ⟨rfl, b1⟩
   unfold AA.V
   dsimp only
   have d3 := (b1.cell (p := ⟨q, 3, none⟩) ltr).trans c3
   have HP1 := Lib.hid (HP.out.below b1)
   have lt1 : q < w1.heap.size := Nat.lt_of_lt_of_le ltr b1.size
   clear b1 c3
   go_upto_if 19 with fail
   go_cut [4, 5] from 20 to 49 (fun y4 y5 wx => ∃ (Fx : Nat → Prop) (cx : Option SenM) (tt : CasT) (kt : Nat) (nvt lvt pvt dvt : Value), CasB w0 O0 wx q L Fx cx tt nvt lvt pvt dvt ∧ casL kt none tt = R ∧ tt.left.length ≤ kt ∧ tt.left.length = tr.left.length)
   case first =>
    go_wp2
    go_meet
    exact ⟨Fr, none, tr, m, .pointer none, lvr, pvr, dvr, HP1.out.below (by go_grown), HSET.out, Nat.le_of_succ_le HGK.out, rfl⟩
   obtain ⟨Fx, cx, tt, kt, nvt, lvt, pvt, dvt, hcw, hrt, hgk, hgl⟩ := hcut
   have HC := Lib.hid hcw
   have HRT := Lib.hid hrt
   have HGK := Lib.hid hgk
   clear hcw hrt hgk
   have ltw := HC.out.b.lt
   have f3 := HC.out.b.frozen 3
   have ct0 : wc.cell? ⟨q, 0, none⟩ = some (.int .i64 tt.b) := Blk.cell HC.out.b 0
   have ct1 : wc.cell? ⟨q, 1, none⟩ = some (.int .i64 tt.s) := Blk.cell HC.out.b 1
   have ct3 : wc.cell? ⟨q, 3, none⟩ = some nvt := Blk.cell HC.out.b 3
   have ct2 : wc.cell? ⟨q, 2, none⟩ = some lvt := Blk.cell HC.out.b 2
   have S1 := Lib.hid (HC.out.set (F1' := fun _ => False) (cur' := none) (nv' := .pointer none) 3 (.pointer none) rfl HC.out.d rfl id (fun i h => h.elim) (fun i h => h.elim))
   cases hlt : tt.left with
   | nil =>
    obtain ⟨la, lc, rfl, _, _⟩ := HC.out.d.rl.sl
    rw [hlt, List.length_nil] at ct2
    have HLT := Lib.hid hlt
    clear hlt
    go_wp2
    refine bodyPost_ret (results_none rfl _ _ _) rfl ?_
    have e := HRT.out
    rw [casL_nil _ HLT.out] at e
    subst e
    exact ⟨rfl, (fun m hm => by cases hm), (fun h => absurd rfl h), _, _, _, _, _, S1.out⟩
   | cons x r =>
    rcases HC.out.d.rl with ⟨a0, cap0, e1, e2, _⟩ | ⟨g, off, cap, e1, e2, e3, e4, e5, e6⟩
    ·rw [hlt] at e2
     cases e2
    subst e1
    obtain ⟨s0, sl, sc, d0, d1, hr, h4⟩ := e6 0 x (by rw [hlt]; rfl)
    simp only [Nat.zero_mul, Nat.add_zero] at d0 d1
    obtain ⟨n, hn⟩ : ∃ n, n = tt.left.length := ⟨_, rfl⟩
    rw [← hn] at ct2
    have hn0 : (0 : Int) < (n : Int) := by rw [hn, hlt]; simp
    have hnz : ¬ (n : Int) = 0 := by omega
    have hn1 : 0 < n := by omega
    have hn2 : (1 : Int) ≤ (n : Int) := by omega
    have hn3 : (n : Int) ≤ (cap : Int) := by omega
    have hn4 : 1 ≤ cap := by omega
    have nq : ¬ g = q := fun e => HC.out.nq.1 (e ▸ e4)
    have HR := Lib.hid (hr.keep (w' := wc.setCell ⟨q, 3, none⟩ (.pointer none)) (K := fun i => i = q) ((Keep.refl (fun i => i = q) wc).setCell (p := ⟨q, 3, none⟩) (.inl rfl) _) (fun h0 j hj e => HC.out.nq.1 (e ▸ h4 h0 j hj)))
    have ks := (Keep.refl (fun i => i = q) wc).setCell (p := ⟨q, 3, none⟩) (.inl rfl) (.pointer none)
    have g0 : (wc.setCell ⟨q, 3, none⟩ (.pointer none)).cell? ⟨q, 0, none⟩ = some (.int .i64 tt.b) := Blk.cell S1.out.b 0
    have g1 : (wc.setCell ⟨q, 3, none⟩ (.pointer none)).cell? ⟨q, 1, none⟩ = some (.int .i64 tt.s) := Blk.cell S1.out.b 1
    have g2 : (wc.setCell ⟨q, 3, none⟩ (.pointer none)).cell? ⟨q, 2, none⟩ = some (.slice (some ⟨g, off, none⟩) n cap) := by rw [hn]; exact Blk.cell S1.out.b 2
    have g3 : (wc.setCell ⟨q, 3, none⟩ (.pointer none)).cell? ⟨g, off, none⟩ = some (.int .i32 x.1) := (ks.cell _ e5 nq).trans d0
    have g4 : (wc.setCell ⟨q, 3, none⟩ (.pointer none)).cell? ⟨g, off + 1, none⟩ = some (.slice s0 sl sc) := (ks.cell _ e5 nq).trans d1
    have lts := S1.out.b.lt
    have e5s := Nat.lt_of_lt_of_le e5 ks.size
    have HKS := Lib.hid ks
    clear ks
    have HB := Lib.hid (HC.out.d.ib x (by rw [hlt]; exact List.mem_cons_self ..))
    have HD := Lib.hid HC.out.d
    have HN := Lib.hid hn
    have HLT := Lib.hid hlt
    have E6 := Lib.hid e6
    clear hr h4 hn hlt e6
    go_wp2_with fail
    go_region_held3 (fun w' => w'.cell? ⟨q, 0, none⟩ = some (.int .i64 tt.b) ∧ w'.cell? ⟨q, 1, none⟩ = some (.int .i64 tt.s) ∧ w'.cell? ⟨q, 2, none⟩ = some (.slice (some ⟨g, off, none⟩) n cap) ∧ w'.cell? ⟨g, off, none⟩ = some (.int .i32 x.1) ∧ w'.cell? ⟨g, off + 1, none⟩ = some (.slice s0 sl sc)) (first | go_keep | trivial)
     ((go_at_call 10; refine (sNew_f tt.b tt.s x.1 s0 sl sc x.2 _ (RdB.drewN 1 HR.out) HB.out.2 HB.out.1 HD.out.bb.1 HD.out.bb.2 HD.out.bs.1 HD.out.bs.2).mono ?_; rintro e w2 ⟨p, rfl, hp, hf, b2⟩; have hc0 := fun o => b2.cell (p := ⟨q, o, none⟩) lts; have hc1 := fun o => b2.cell (p := ⟨g, o, none⟩) e5s; have S2 := Lib.hid (S1.out.below (Below.trans (bel_drewN 1 (Below.refl _ _)) b2)); have f23 := S2.out.b.frozen 3; have c23 : w2.cell? ⟨q, 3, none⟩ = some (.pointer none) := Blk.cell S2.out.b 3; have B3 := S2.out.b.set 3 (.pointer (some ⟨p, 0, none⟩)); have i0 : (w2.setCell ⟨q, 3, none⟩ (.pointer (some ⟨p, 0, none⟩))).cell? ⟨q, 0, none⟩ = some (.int .i64 tt.b) := Blk.cell B3 0; have i1 : (w2.setCell ⟨q, 3, none⟩ (.pointer (some ⟨p, 0, none⟩))).cell? ⟨q, 1, none⟩ = some (.int .i64 tt.s) := Blk.cell B3 1; have i2 : (w2.setCell ⟨q, 3, none⟩ (.pointer (some ⟨p, 0, none⟩))).cell? ⟨q, 2, none⟩ = some (.slice (some ⟨g, off, none⟩) n cap) := (by rw [HN.out]; exact Blk.cell B3 2); have j2 := B3.frozen 2; have ks2 := (Keep.refl (fun i => i = q) w2).setCell (p := ⟨q, 3, none⟩) (.inl rfl) (.pointer (some ⟨p, 0, none⟩)); have i3 : (w2.setCell ⟨q, 3, none⟩ (.pointer (some ⟨p, 0, none⟩))).cell? ⟨g, off, none⟩ = some (.int .i32 x.1) := (ks2.cell _ (Nat.lt_of_lt_of_le e5s b2.size) nq).trans ((hc1 off).trans g3); have i4 : (w2.setCell ⟨q, 3, none⟩ (.pointer (some ⟨p, 0, none⟩))).cell? ⟨g, off + 1, none⟩ = some (.slice s0 sl sc) := (ks2.cell _ (Nat.lt_of_lt_of_le e5s b2.size) nq).trans ((hc1 (off + 1)).trans g4)))
    all_goals (
     have HNX := Lib.hid (S1.out.next (p := p) (x := x) (r := r) (Below.trans (bel_drewN 1 (Below.refl _ _)) b2) hf HLT.out)
     have HGL := Lib.hid hgl
     have HDS : Hid (tt.done.length + r.length < 1000000) := Lib.hid (by have := HC.out.d.sm.1; rw [HLT.out] at this; simp only [List.length_cons] at this; omega)
     clear hgl hp hf b2 hc0 hc1 S2 B3 ks2
     by_cases hc1 : cap = 1
     ·have HC1 := Lib.hid hc1
      subst hc1
      go_wp2_with fail
      go_roundg (r.length + 1)
      case measure => (have := HGL.out; rw [HLT.out] at this; simp only [List.length_cons] at this; omega)
      case rel =>
       refine ⟨kt, _, _, _, _, _, _, _, rfl, ?_, HNX.out _ (.inr (by first | exact ⟨rfl, rfl⟩ | exact ⟨trivial, by rw [show n - 1 = 0 by omega]⟩)), ?_, fun _ => HDS.out⟩
       ·have := HGK.out; rw [HLT.out] at this; exact this
       ·exact (casL_cons kt HLT.out).symm.trans HRT.out
     ·have hc2 : ¬ cap - 1 = 0 := by omega
      go_wp2_with fail
      go_roundg (r.length + 1)
      case measure => (have := HGL.out; rw [HLT.out] at this; simp only [List.length_cons] at this; omega)
      case rel =>
       refine ⟨kt, _, _, _, _, _, _, _, rfl, ?_, HNX.out _ (.inl (by rw [HN.out])), ?_, fun _ => HDS.out⟩
       ·have := HGK.out; rw [HLT.out] at this; exact this
       ·exact (casL_cons kt HLT.out).symm.trans HRT.out)
  | some s =>
   obtain ⟨p, e, hsf⟩ := cc
   subst e
   obtain ⟨O, bv, hO, hI⟩ := hsf.2.2
   have HI := Lib.hid hI
   clear hO hI hsf
   unfold ptr at c3
   go_wp2_with fail
   refine (sNext_any _ HI.out).mono ?_
   rintro e w1 ⟨s0, sl, sc, rfl, hr, b1⟩
   unfold AA.V
   dsimp only
   have d3 := (b1.cell (p := ⟨q, 3, none⟩) ltr).trans c3
   have HP1 := Lib.hid (HP.out.below b1)
   have lt1 : q < w1.heap.size := Nat.lt_of_lt_of_le ltr b1.size
   have HI1 := Lib.hid (HI.out.below b1)
   clear b1 c3 hr
   by_cases hl : s.live = true
   ·rw [hl]
    have HL := Lib.hid hl
    clear hl
    go_wp2
    refine bodyPost_ret (results_none rfl _ _ _) rfl ?_
    have e := HSET.out
    rw [casL_live _ _ HL.out] at e
    subst e
    exact ⟨rfl, (fun m hm => by cases hm; exact HL.out), HSR.out, Fr, _, _, _, _, HP1.out.below (by go_grown)⟩
   ·have hl' : s.live = false := by simpa using hl
    rw [hl']
    have HL := Lib.hid hl'
    clear hl hl'
    obtain ⟨m', rfl⟩ : ∃ m', m = m' + 1 := ⟨m - 1, by have := HGK.out; omega⟩
    have HST := Lib.hid ((casL_dead m' tr HL.out).symm.trans HSET.out)
    have HGM : Hid (tr.left.length ≤ m') := Lib.hid (by have := HGK.out; omega)
    go_upto_if 19 with fail
    go_cut [4, 5] from 20 to 49 (fun y4 y5 wx => ∃ (Fx : Nat → Prop) (cx : Option SenM) (tt : CasT) (kt : Nat) (nvt lvt pvt dvt : Value), CasB w0 O0 wx q L Fx cx tt nvt lvt pvt dvt ∧ casL kt none tt = R ∧ tt.left.length ≤ kt ∧ tt.left.length = tr.left.length)
    case first =>
     go_wp2_with fail
     refine (sResult_any _ (HI1.out.below (by go_grown)).at_).mono ?_
     rintro e w2 ⟨rfl, b2⟩
     have HS2 := Lib.hid ((HP1.out.below (by go_grown)).below b2)
     clear b2
     have lt2 := HS2.out.b.lt
     obtain ⟨ev, hev⟩ : ∃ ev, ev = s.e := ⟨_, rfl⟩
     obtain ⟨rv, hrv⟩ : ∃ rv, rv = s.rv := ⟨_, rfl⟩
     rw [← hev, ← hrv]
     have HEV := Lib.hid hev
     have HRV := Lib.hid hrv
     clear hev hrv
     obtain ⟨da, dl, dc, rfl⟩ := own_isSl HS2.out.d.od
     obtain ⟨pa, pl, pc, rfl⟩ := own_isSl HS2.out.d.op
     have c5 : w2.cell? ⟨q, 5, none⟩ = some (.slice da dl dc) := Blk.cell HS2.out.b 5
     have SM := Lib.hid HS2.out.d.sm
     have NB := Lib.hid (show Blk (w2.alloc (Obj.cells #[.int .i64 ev] 28)) w2.heap.size [.int .i64 ev] from by have := Blk.made w2 #[.int .i64 ev] 28; simpa using this)
     have S2 := Lib.hid (HS2.out.below ((Below.refl _ w2).alloc (Nat.le_refl _) (Obj.cells #[.int .i64 ev] 28)))
     go_wp2_with (refine list_app1 rfl (.tmp 32) (.tmp 34) 90 28 rfl Tryz.underlying90 hi1 hz0 hz1 hz2 rfl (by decide) (.slice da dl dc) tr.done.length (tr.done.map (.int .i64)) rfl S2.out.d.od w2.heap.size [.int .i64 ev] rfl NB.out rfl (by simp [Value.oneCell']) (by have := SM.out; omega) (by have := SM.out; unfold maxLen; omega) ?_)
     intro v4 w4 o4 g4 e4
     obtain ⟨za, zl, zc, rfl⟩ := own_isSl o4
     have k4 := (Below.keeps (M := fun i => (Value.slice da dl dc).ownBlock = some i) ((Below.refl _ w2).alloc (Nat.le_refl _) (Obj.cells #[.int .i64 ev] 28))).trans (grown_keep g4)
     have HS4 := Lib.hid (HS2.out.pushD ev (by have := HSR.out (by simp); omega) k4 o4 (e4.imp id fun h => ⟨_, h, by simp⟩))
     have f54 : w4.frozen? ⟨q, 5, none⟩ = false := (HS2.out.b.keep k4 HS2.out.qd.1).frozen 5
     have c54 : w4.cell? ⟨q, 5, none⟩ = some (.slice da dl dc) := Blk.cell (HS2.out.b.keep k4 HS2.out.qd.1) 5
     have c44 : w4.cell? ⟨q, 4, none⟩ = some (.slice pa pl pc) := Blk.cell (HS2.out.b.keep k4 HS2.out.qd.1) 4
     clear k4 o4 g4 e4
     by_cases he : ev = 0
     ·subst he
      have SM4 := Lib.hid HS4.out.d.sm
      have NB4 := Lib.hid (show Blk ((w4.setCell ⟨q, 5, none⟩ (.slice za zl zc)).alloc (Obj.cells #[.int .i64 rv] 2)) w4.heap.size [.int .i64 rv] from by have := Blk.made (w4.setCell ⟨q, 5, none⟩ (.slice za zl zc)) #[.int .i64 rv] 2; simpa using this)
      have S4 := Lib.hid (HS4.out.below ((Below.refl _ _).alloc (Nat.le_refl _) (Obj.cells #[.int .i64 rv] 2)))
      go_wp2_with (refine list_app1 rfl (.tmp 44) (.tmp 46) 143 2 rfl Tryz.underlying143 hj1 hy0 hy1 hy2 rfl (by decide) (.slice pa pl pc) tr.places.length (tr.places.map (.int .i64)) rfl S4.out.d.op w4.heap.size [.int .i64 rv] rfl NB4.out rfl (by simp [Value.oneCell']) (by have := SM.out; omega) (by have := SM.out; unfold maxLen; omega) ?_)
      intro v6 w6 o6 g6 e6
      obtain ⟨ya, yl, yc, rfl⟩ := own_isSl o6
      have k6 := (Below.keeps (M := fun i => (Value.slice pa pl pc).ownBlock = some i) ((Below.refl _ (w4.setCell ⟨q, 5, none⟩ (.slice za zl zc))).alloc (Nat.le_refl _) (Obj.cells #[.int .i64 rv] 2))).trans (grown_keep g6)
      have HS6 := Lib.hid (HS4.out.pushP rv (by have := SM4.out.2; simp only [List.length_append, List.length_singleton] at *; have := SM.out; omega) k6 o6 (e6.imp id fun h => ⟨_, h, by simp⟩))
      have f46 : w6.frozen? ⟨q, 4, none⟩ = false := (HS4.out.b.keep k6 HS4.out.qd.2).frozen 4
      have c46 : w6.cell? ⟨q, 4, none⟩ = some (.slice pa pl pc) := Blk.cell (HS4.out.b.keep k6 HS4.out.qd.2) 4
      clear k6 o6 g6 e6
      go_wp2
      go_meet
      refine ⟨Fr, some s, _, m', _, _, _, _, HS6.out, ?_, HGM.out, rfl⟩
      rw [← HST.out]
      unfold CasT.en
      rw [← HEV.out, ← HRV.out, if_pos rfl]
     ·go_wp2
      go_meet
      refine ⟨Fr, some s, _, m', _, _, _, _, HS4.out, ?_, HGM.out, rfl⟩
      rw [← HST.out]
      unfold CasT.en
      rw [← HEV.out, if_neg he]
    obtain ⟨Fx, cx, tt, kt, nvt, lvt, pvt, dvt, hcw, hrt, hgk, hgl⟩ := hcut
    have HC := Lib.hid hcw
    have HRT := Lib.hid hrt
    have HGK := Lib.hid hgk
    clear hcw hrt hgk
    have ltw := HC.out.b.lt
    have f3 := HC.out.b.frozen 3
    have ct0 : wc.cell? ⟨q, 0, none⟩ = some (.int .i64 tt.b) := Blk.cell HC.out.b 0
    have ct1 : wc.cell? ⟨q, 1, none⟩ = some (.int .i64 tt.s) := Blk.cell HC.out.b 1
    have ct3 : wc.cell? ⟨q, 3, none⟩ = some nvt := Blk.cell HC.out.b 3
    have ct2 : wc.cell? ⟨q, 2, none⟩ = some lvt := Blk.cell HC.out.b 2
    have S1 := Lib.hid (HC.out.set (F1' := fun _ => False) (cur' := none) (nv' := .pointer none) 3 (.pointer none) rfl HC.out.d rfl id (fun i h => h.elim) (fun i h => h.elim))
    cases hlt : tt.left with
    | nil =>
     obtain ⟨la, lc, rfl, _, _⟩ := HC.out.d.rl.sl
     rw [hlt, List.length_nil] at ct2
     have HLT := Lib.hid hlt
     clear hlt
     go_wp2
     refine bodyPost_ret (results_none rfl _ _ _) rfl ?_
     have e := HRT.out
     rw [casL_nil _ HLT.out] at e
     subst e
     exact ⟨rfl, (fun m hm => by cases hm), (fun h => absurd rfl h), _, _, _, _, _, S1.out⟩
    | cons x r =>
     rcases HC.out.d.rl with ⟨a0, cap0, e1, e2, _⟩ | ⟨g, off, cap, e1, e2, e3, e4, e5, e6⟩
     ·rw [hlt] at e2
      cases e2
     subst e1
     obtain ⟨s0, sl, sc, d0, d1, hr, h4⟩ := e6 0 x (by rw [hlt]; rfl)
     simp only [Nat.zero_mul, Nat.add_zero] at d0 d1
     obtain ⟨n, hn⟩ : ∃ n, n = tt.left.length := ⟨_, rfl⟩
     rw [← hn] at ct2
     have hn0 : (0 : Int) < (n : Int) := by rw [hn, hlt]; simp
     have hnz : ¬ (n : Int) = 0 := by omega
     have hn1 : 0 < n := by omega
     have hn2 : (1 : Int) ≤ (n : Int) := by omega
     have hn3 : (n : Int) ≤ (cap : Int) := by omega
     have hn4 : 1 ≤ cap := by omega
     have nq : ¬ g = q := fun e => HC.out.nq.1 (e ▸ e4)
     have HR := Lib.hid (hr.keep (w' := wc.setCell ⟨q, 3, none⟩ (.pointer none)) (K := fun i => i = q) ((Keep.refl (fun i => i = q) wc).setCell (p := ⟨q, 3, none⟩) (.inl rfl) _) (fun h0 j hj e => HC.out.nq.1 (e ▸ h4 h0 j hj)))
     have ks := (Keep.refl (fun i => i = q) wc).setCell (p := ⟨q, 3, none⟩) (.inl rfl) (.pointer none)
     have g0 : (wc.setCell ⟨q, 3, none⟩ (.pointer none)).cell? ⟨q, 0, none⟩ = some (.int .i64 tt.b) := Blk.cell S1.out.b 0
     have g1 : (wc.setCell ⟨q, 3, none⟩ (.pointer none)).cell? ⟨q, 1, none⟩ = some (.int .i64 tt.s) := Blk.cell S1.out.b 1
     have g2 : (wc.setCell ⟨q, 3, none⟩ (.pointer none)).cell? ⟨q, 2, none⟩ = some (.slice (some ⟨g, off, none⟩) n cap) := by rw [hn]; exact Blk.cell S1.out.b 2
     have g3 : (wc.setCell ⟨q, 3, none⟩ (.pointer none)).cell? ⟨g, off, none⟩ = some (.int .i32 x.1) := (ks.cell _ e5 nq).trans d0
     have g4 : (wc.setCell ⟨q, 3, none⟩ (.pointer none)).cell? ⟨g, off + 1, none⟩ = some (.slice s0 sl sc) := (ks.cell _ e5 nq).trans d1
     have lts := S1.out.b.lt
     have e5s := Nat.lt_of_lt_of_le e5 ks.size
     have HKS := Lib.hid ks
     clear ks
     have HB := Lib.hid (HC.out.d.ib x (by rw [hlt]; exact List.mem_cons_self ..))
     have HD := Lib.hid HC.out.d
     have HN := Lib.hid hn
     have HLT := Lib.hid hlt
     have E6 := Lib.hid e6
     clear hr h4 hn hlt e6
     go_wp2_with fail
     go_region_held3 (fun w' => w'.cell? ⟨q, 0, none⟩ = some (.int .i64 tt.b) ∧ w'.cell? ⟨q, 1, none⟩ = some (.int .i64 tt.s) ∧ w'.cell? ⟨q, 2, none⟩ = some (.slice (some ⟨g, off, none⟩) n cap) ∧ w'.cell? ⟨g, off, none⟩ = some (.int .i32 x.1) ∧ w'.cell? ⟨g, off + 1, none⟩ = some (.slice s0 sl sc)) (first | go_keep | trivial)
      ((go_at_call 10; refine (sNew_f tt.b tt.s x.1 s0 sl sc x.2 _ (RdB.drewN 1 HR.out) HB.out.2 HB.out.1 HD.out.bb.1 HD.out.bb.2 HD.out.bs.1 HD.out.bs.2).mono ?_; rintro e w2 ⟨p, rfl, hp, hf, b2⟩; have hc0 := fun o => b2.cell (p := ⟨q, o, none⟩) lts; have hc1 := fun o => b2.cell (p := ⟨g, o, none⟩) e5s; have S2 := Lib.hid (S1.out.below (Below.trans (bel_drewN 1 (Below.refl _ _)) b2)); have f23 := S2.out.b.frozen 3; have c23 : w2.cell? ⟨q, 3, none⟩ = some (.pointer none) := Blk.cell S2.out.b 3; have B3 := S2.out.b.set 3 (.pointer (some ⟨p, 0, none⟩)); have i0 : (w2.setCell ⟨q, 3, none⟩ (.pointer (some ⟨p, 0, none⟩))).cell? ⟨q, 0, none⟩ = some (.int .i64 tt.b) := Blk.cell B3 0; have i1 : (w2.setCell ⟨q, 3, none⟩ (.pointer (some ⟨p, 0, none⟩))).cell? ⟨q, 1, none⟩ = some (.int .i64 tt.s) := Blk.cell B3 1; have i2 : (w2.setCell ⟨q, 3, none⟩ (.pointer (some ⟨p, 0, none⟩))).cell? ⟨q, 2, none⟩ = some (.slice (some ⟨g, off, none⟩) n cap) := (by rw [HN.out]; exact Blk.cell B3 2); have j2 := B3.frozen 2; have ks2 := (Keep.refl (fun i => i = q) w2).setCell (p := ⟨q, 3, none⟩) (.inl rfl) (.pointer (some ⟨p, 0, none⟩)); have i3 : (w2.setCell ⟨q, 3, none⟩ (.pointer (some ⟨p, 0, none⟩))).cell? ⟨g, off, none⟩ = some (.int .i32 x.1) := (ks2.cell _ (Nat.lt_of_lt_of_le e5s b2.size) nq).trans ((hc1 off).trans g3); have i4 : (w2.setCell ⟨q, 3, none⟩ (.pointer (some ⟨p, 0, none⟩))).cell? ⟨g, off + 1, none⟩ = some (.slice s0 sl sc) := (ks2.cell _ (Nat.lt_of_lt_of_le e5s b2.size) nq).trans ((hc1 (off + 1)).trans g4)))
     all_goals (
      have HNX := Lib.hid (S1.out.next (p := p) (x := x) (r := r) (Below.trans (bel_drewN 1 (Below.refl _ _)) b2) hf HLT.out)
      have HGL := Lib.hid hgl
      have HDS : Hid (tt.done.length + r.length < 1000000) := Lib.hid (by have := HC.out.d.sm.1; rw [HLT.out] at this; simp only [List.length_cons] at this; omega)
      clear hgl hp hf b2 hc0 hc1 S2 B3 ks2
      by_cases hc1 : cap = 1
      ·have HC1 := Lib.hid hc1
       subst hc1
       go_wp2_with fail
       go_roundg (r.length + 1)
       case measure => (have := HGL.out; rw [HLT.out] at this; simp only [List.length_cons] at this; omega)
       case rel =>
        refine ⟨kt, _, _, _, _, _, _, _, rfl, ?_, HNX.out _ (.inr (by first | exact ⟨rfl, rfl⟩ | exact ⟨trivial, by rw [show n - 1 = 0 by omega]⟩)), ?_, fun _ => HDS.out⟩
        ·have := HGK.out; rw [HLT.out] at this; exact this
        ·exact (casL_cons kt HLT.out).symm.trans HRT.out
      ·have hc2 : ¬ cap - 1 = 0 := by omega
       go_wp2_with fail
       go_roundg (r.length + 1)
       case measure => (have := HGL.out; rw [HLT.out] at this; simp only [List.length_cons] at this; omega)
       case rel =>
        refine ⟨kt, _, _, _, _, _, _, _, rfl, ?_, HNX.out _ (.inl (by rw [HN.out])), ?_, fun _ => HDS.out⟩
        ·have := HGK.out; rw [HLT.out] at this; exact this
        ·exact (casL_cons kt HLT.out).symm.trans HRT.out)
end Go.Proofs.YtggjhleomocojaaGreat
namespace Go.Proofs.YtggjhleomocojaaGreat
set_option maxRecDepth 100000
open Go.RowKit
set_option linter.unusedVariables false
set_option linter.unusedSimpArgs false
variable {q : Nat} {L F1 : Nat → Prop} {t : CasT} {nv lv pv dv : Value}
theorem CasB.lt {w0 w : World} {O0 : Nat → Prop} {cur : Option SenM} (h : CasB w0 O0 w q L F1 cur t nv lv pv dv) : ∀ i, (i = q ∨ L i ∨ dv.ownBlock = some i ∨ pv.ownBlock = some i ∨ F1 i) → i < w.heap.size := by
 rintro i (rfl | hi | hi | hi | hi)
 ·exact h.b.lt
 ·exact h.d.ll i hi
 ·exact (World.ownsRow.lt h.d.od i hi).2
 ·exact (World.ownsRow.lt h.d.op i hi).2
 ·exact (h.f1 i hi).1
theorem CasB.rebase {w0 w : World} {O0 F : Nat → Prop} {cur : Option SenM} (h : CasB w0 O0 w q L F1 cur t nv lv pv dv) (hF : ∀ i, i < w.heap.size → O0 i ∨ w0.heap.size ≤ i → F i) : CasB w F w q L F1 cur t nv lv pv dv :=
 ⟨Keep.refl _ _, h.b, h.d, h.c, h.nq, h.qd, h.f1, fun i hi => .inl (hF i (h.lt i hi) (h.o i hi))⟩
def CasF (w : World) (F : Nat → Prop) (q : Nat) (s : casC.mac.σ) : Prop :=
 F q ∧ (∀ i, F i → i < w.heap.size) ∧ casC.fin s ∧ (s.1 ≠ none → s.2.done.length + s.2.left.length < 1000000) ∧ ∃ L F1 nv lv pv dv, CasB w F w q L F1 s.1 s.2 nv lv pv dv
variable {w : World} {s : casC.mac.σ}
theorem CasF.mono {F F' : Nat → Prop} (h : CasF w F q s) (h1 : ∀ i, F i → F' i) (h2 : ∀ i, F' i → i < w.heap.size) : CasF w F' q s := by
 obtain ⟨a1, a2, a3, a4, L, F1, nv, lv, pv, dv, hb⟩ := h
 exact ⟨h1 q a1, h2, a3, a4, L, F1, nv, lv, pv, dv, ⟨Keep.refl _ _, hb.b, hb.d, hb.c, hb.nq, hb.qd, hb.f1, fun i hi => (hb.o i hi).imp_left (h1 i)⟩⟩
theorem CasF.keep {w w' : World} {F K : Nat → Prop} (h : CasF w F q s) (k : Keep K w w') (hd : ∀ i, F i → ¬ K i) : CasF w' F q s := by
 obtain ⟨a1, a2, a3, a4, L, F1, nv, lv, pv, dv, hb⟩ := h
 have ho : ∀ i, (i = q ∨ L i ∨ dv.ownBlock = some i ∨ pv.ownBlock = some i ∨ F1 i) → F i := fun i hi => (hb.o i hi).resolve_right (by have := hb.lt i hi; omega)
 exact ⟨a1, fun i hi => Nat.lt_of_lt_of_le (a2 i hi) k.size, a3, a4, L, F1, nv, lv, pv, dv, ⟨Keep.refl _ _, hb.b.keep k (hd q a1), hb.d.keep k (fun i hi => hd i (ho i (.inr (.inl hi)))) (fun i hi => hd i (ho i (.inr (.inr (.inl hi))))) (fun i hi => hd i (ho i (.inr (.inr (.inr (.inl hi)))))),
  hb.c.keep k (fun i hi => hd i (ho i (.inr (.inr (.inr (.inr hi)))))), hb.nq, hb.qd, fun i hi => ⟨Nat.lt_of_lt_of_le (hb.f1 i hi).1 k.size, (hb.f1 i hi).2⟩, fun i hi => .inl (ho i hi)⟩⟩
theorem CasB.take {w0 w w' : World} {O0 : Nat → Prop} {q p : Nat} {L F1 F2 : Nat → Prop} {m m' : SenM} {lv pv dv : Value} (h : CasB w0 O0 w q L F1 (some m) t (ptr p) lv pv dv) (hs : SenF w' F2 p m') (hg : ∀ i, F2 i → F1 i ∨ w.heap.size ≤ i) (k : Keep F1 w w') : CasB w0 O0 w' q L F2 (some m') t (ptr p) lv pv dv := by
 have hlt := h.lt
 have hn : ∀ i, i < w.heap.size → ¬ F1 i → ¬ F2 i := fun i hi hf h2 => (hg i h2).elim hf (by omega)
 refine ⟨h.k.then k (fun i hi hf => (h.o i (.inr (.inr (.inr (.inr hf))))).resolve_right (by omega)), h.b.keep k h.nq.2, h.d.keep k (fun i hi hf => (h.f1 i hf).2.1 hi) (fun i hi hf => (h.f1 i hf).2.2.1 hi) (fun i hi hf => (h.f1 i hf).2.2.2 hi), ⟨p, rfl, hs⟩, ⟨h.nq.1, hn q h.b.lt h.nq.2⟩, h.qd, fun i hi => ⟨hs.2.1 i hi, ?_, ?_, ?_⟩, ?_⟩
 ·intro hl
  exact hn i (h.d.ll i hl) (fun hf => (h.f1 i hf).2.1 hl) hi
 ·intro hl
  exact hn i (World.ownsRow.lt h.d.od i hl).2 (fun hf => (h.f1 i hf).2.2.1 hl) hi
 ·intro hl
  exact hn i (World.ownsRow.lt h.d.op i hl).2 (fun hf => (h.f1 i hf).2.2.2 hl) hi
 ·rintro i (hi | hi | hi | hi | hi)
  ·exact h.o i (.inl hi)
  ·exact h.o i (.inr (.inl hi))
  ·exact h.o i (.inr (.inr (.inl hi)))
  ·exact h.o i (.inr (.inr (.inr (.inl hi))))
  ·rcases hg i hi with h1 | h1
   ·exact h.o i (.inr (.inr (.inr (.inr h1))))
   ·exact .inr (Nat.le_trans h.k.size h1)
set_option maxHeartbeats 2000000 in
theorem casNext_of {nv : Value} {W : AA} {L : Bool} (w : World) (hlt : q < w.heap.size) (c3 : w.cell? ⟨q, 3, none⟩ = some nv)
  (hc : ∀ w1, Below w.heap.size w w1 → Calls Tryz.prog 87 #[nv] w1 fun e w' => ∃ s0 sl sc, e = .returned (.tuple #[W.V (.slice s0 sl sc), .bool L]) ∧ RdB w' (.slice s0 sl sc) W.b ∧ Below w1.heap.size w1 w') :
  Calls Tryz.prog 205 #[ptr q] w fun e w' => ∃ s0 sl sc, e = .returned (.tuple #[W.V (.slice s0 sl sc), .bool L]) ∧ RdB w' (.slice s0 sl sc) W.b ∧ Below w.heap.size w w' := by
 have HC := Lib.hid hc
 clear hc
 unfold ptr
 go_enter Tryz.func205, Tryz.ntmps205
 go_wp2_with fail
 refine (HC.out (w.alloc (.cells #[.int .i64 0, .int .i64 0, .int .i64 0, .int .u64 0, .int .u64 0, .slice none 0 0] 72)) ((Below.refl w.heap.size w).alloc (Nat.le_refl _) _)).mono ?_
 rintro e w1 ⟨s0, sl, sc, rfl, hr, b1⟩
 unfold AA.V
 dsimp only
 have z1 := b1.size
 simp at z1
 have A1 := Lib.hid (Blk.below (Blk.made w #[.int .i64 0, .int .i64 0, .int .i64 0, .int .u64 0, .int .u64 0, .slice none 0 0] 72) b1 (by simp))
 have B1 : Below w.heap.size w w1 := ((Below.refl w.heap.size w).alloc (Nat.le_refl _) _).trans (b1.mono (by simp))
 have y1 : w.heap.size < w1.heap.size := by omega
 have HR := Lib.hid hr
 clear b1 hr
 have a0 := A1.out.cell 0
 have a1 := A1.out.cell 1
 have a2 := A1.out.cell 2
 have a3 := A1.out.cell 3
 have a4 := A1.out.cell 4
 have a5 := A1.out.cell 5
 have e0 := A1.out.frozen 0
 have e1 := A1.out.frozen 1
 have e2 := A1.out.frozen 2
 have e3 := A1.out.frozen 3
 have e4 := A1.out.frozen 4
 have e5 := A1.out.frozen 5
 simp only [List.getElem?_toArray, List.getElem?_cons_zero, List.getElem?_cons_succ] at a0 a1 a2 a3 a4 a5
 go_wp2
 refine bodyPost_ret (v := .tuple #[W.V (.slice s0 sl sc), .bool L]) (res_aa (c := W) rfl rfl rfl (((((((A1.out.set 0 _).set 1 _).set 2 _).set 3 _).set 4 _).set 5 _))) rfl ⟨s0, sl, sc, rfl, ?_, ?_⟩
 ·refine HR.out.keep (K := (· = w.heap.size)) ?_ (fun h => HR.out.apart h A1.out rfl)
  repeat' (refine Keep.setCell (M := (· = w.heap.size)) ?_ (Or.inl (by simp)) _)
  exact Keep.refl _ _
 ·repeat' (refine Below.setCell ?_ (by simp; try omega) _)
  exact B1
variable {F : Nat → Prop}
theorem casNext_any (h : CasF w F q s) :
  Calls Tryz.prog 205 #[ptr q] w fun e w' => ∃ s0 sl sc, e = .returned (.tuple #[(casC.mac.want s).V (.slice s0 sl sc), .bool (casC.mac.live s)]) ∧ RdB w' (.slice s0 sl sc) (casC.mac.want s).b ∧ Below w.heap.size w w' := by
 obtain ⟨cur, t⟩ := s
 obtain ⟨a1, a2, a3, a4, L, F1, nv, lv, pv, dv, hb⟩ := h
 refine casNext_of w (a2 q a1) (Blk.cell hb.b 3) (fun w1 b1 => ?_)
 cases cur with
 | none =>
  have e : nv = .pointer none := hb.c
  subst e
  refine (sNext_nil w1).mono ?_
  rintro e w2 ⟨rfl, b2⟩
  exact ⟨none, 0, 0, rfl, .inl ⟨rfl, rfl⟩, b2⟩
 | some m =>
  obtain ⟨p, rfl, hs⟩ := (hb.below b1).c
  obtain ⟨O, bv, hO, hI⟩ := hs.2.2
  have hl : m.live = true := a3 m rfl
  refine (sNext_any w1 hI).mono ?_
  rintro e w2 ⟨s0, sl, sc, rfl, hr, b2⟩
  exact ⟨s0, sl, sc, by rw [hl]; rfl, hr, b2⟩
def CasTo (w : World) (F : Nat → Prop) (q : Nat) (s : casC.mac.σ) (w' : World) : Prop := ∃ F', CasF w' F' q s ∧ (∀ i, F' i → F i ∨ w.heap.size ≤ i) ∧ Keep F w w'
theorem casTo_of {w w' : World} (hF : F q) (h : CasB w F w' q L F1 s.1 s.2 nv lv pv dv) (hf : casC.fin s) (hs : s.1 ≠ none → s.2.done.length + s.2.left.length < 1000000) : CasTo w F q s w' :=
 ⟨fun i => (F i ∨ w.heap.size ≤ i) ∧ i < w'.heap.size, ⟨⟨.inl hF, h.b.lt⟩, fun i hi => hi.2, hf, hs, L, F1, nv, lv, pv, dv, h.rebase fun i h1 h2 => ⟨h2, h1⟩⟩, fun i hi => hi.1, h.k⟩
set_option maxHeartbeats 2000000 in
theorem casTake_any (x : AN) (s0 : Option Addr) (sl sc : Nat) (h : CasF w F q s) (hl : casC.mac.live s = true) (hx : inU x.v) :
  Calls Tryz.prog 206 #[ptr q, .agg #[.int .u64 x.v, .bool x.d, .slice s0 sl sc]] w fun e w' => e = .returned (.tuple #[]) ∧ CasTo w F q (casC.mac.step s x) w' := by
 obtain ⟨cur, t⟩ := s
 obtain ⟨a1, a2, a3, a4, L, F1, nv, lv, pv, dv, hb⟩ := h
 cases cur with
 | none => cases hl
 | some m =>
  obtain ⟨p, rfl, hs⟩ := hb.c
  have hml : m.live = true := a3 m rfl
  have hlt := a2 q a1
  have c3 : w.cell? ⟨q, 3, none⟩ = some (ptr p) := Blk.cell hb.b 3
  have HB := Lib.hid hb
  have HSF := Lib.hid hs
  have HML := Lib.hid hml
  have HX := Lib.hid hx
  have H4 := Lib.hid (a4 (by simp))
  have HFQ := Lib.hid a1
  have HF1 := Lib.hid (fun i (hi : F1 i) => (hb.f1 i hi).1)
  have HNQ := Lib.hid hb.nq.2
  obtain ⟨v, hv⟩ : ∃ v, v = x.v := ⟨_, rfl⟩
  obtain ⟨d, hd⟩ : ∃ d, d = x.d := ⟨_, rfl⟩
  have HC : Hid (∀ w1, Below w.heap.size w w1 → Calls Tryz.prog 191 #[.pointer (some ⟨p, 0, none⟩), .agg #[.int .u64 v, .bool d, .slice s0 sl sc]] w1 fun e w' => e = .returned (.tuple #[]) ∧ (∃ F2, CasB w F w' q L F2 (some (m.step x)) t (ptr p) lv pv dv) ∧ Keep F1 w1 w') := Lib.hid (by
   intro w1 b1
   rw [hv, hd]
   refine (sTake_f x s0 sl sc w1 (hs.below b1) hml hx).mono ?_
   rintro e w' ⟨rfl, F', g1, g2, g3⟩
   exact ⟨rfl, ⟨F', (hb.below b1).take g1 g2 g3⟩, g3⟩)
  rw [← hv, ← hd]
  clear hb hs hml hx a4 a1 a2 a3 hv hd
  unfold ptr at c3
  unfold ptr
  go_enter Tryz.func206, Tryz.ntmps206
  go_wp2_with fail
  go_region_held3 (fun w' => w'.cell? ⟨w.heap.size, 0, none⟩ = some (.int .u64 v) ∧ w'.cell? ⟨w.heap.size, 1, none⟩ = some (.bool d) ∧ w'.cell? ⟨w.heap.size, 2, none⟩ = some (.slice s0 sl sc) ∧ w'.cell? ⟨q, 3, none⟩ = some (.pointer (some ⟨p, 0, none⟩))) (first | go_keep | trivial)
   (first
    | (go_at_call 191; refine (HC.out _ (by go_grown)).mono ?_; rintro e w2 ⟨rfl, hQ, hk⟩; have hc := fun o => hk.cell (b := w.heap.size) o (by simp) (fun h => by have := HF1.out _ h; omega); have hc3 := fun o => hk.cell (b := q) o (by simp; omega) HNQ.out))
  all_goals (
   clear hc hc3
   obtain ⟨F2, hQ⟩ := hQ
   have HQ := Lib.hid hQ
   clear hQ hk
   go_wp2_with fail
   refine (casSettle_any (cur := some (m.step x)) (t := t) (t.left.length + 2) (by omega) (fun _ => H4.out) (HQ.out.below (by go_grown))).mono ?_
   rintro e w5 ⟨rfl, hlive, hs5, F5, nv5, lv5, pv5, dv5, hB5⟩
   have HB5 := Lib.hid hB5
   have HL5 := Lib.hid hlive
   have HS5 := Lib.hid hs5
   clear hB5 hlive hs5
   go_wp2
   go_end0
   exact ⟨rfl, casTo_of (s := casC.mac.step (some m, t) x) HFQ.out HB5.out HL5.out HS5.out⟩)
theorem cas_wf (h : CasF w F q s) : (casC.mac.want s).wf := by
 obtain ⟨cur, t⟩ := s
 obtain ⟨a1, a2, a3, a4, L, F1, nv, lv, pv, dv, hb⟩ := h
 cases cur with
 | none => exact aaZ_wf
 | some m =>
  obtain ⟨p, _, hs⟩ := hb.c
  obtain ⟨O, bv, hO, hI⟩ := hs.2.2
  exact hI.fine.wf
theorem casM_next (b : Nat) (w : World) : (method (Tryz.prog.types.size + Made.depth) 67 (.pointer (some ⟨b, 0, none⟩)) "Next").run Tryz.prog w = .ok (205, .pointer (some ⟨b, 0, none⟩)) w := by kernel_rfl
theorem casM_take (b : Nat) (w : World) : (method (Tryz.prog.types.size + Made.depth) 67 (.pointer (some ⟨b, 0, none⟩)) "Take").run Tryz.prog w = .ok (206, .pointer (some ⟨b, 0, none⟩)) w := by kernel_rfl
theorem casE_next (args : Array Value) (w : World) : (callFunc 205 args).run Tryz.prog w = .ok (.enter 205 args) w :=
 enters_of Tryz.func205 (by kernel_rfl) rfl args w
theorem casE_take (args : Array Value) (w : World) : (callFunc 206 args).run Tryz.prog w = .ok (.enter 206 args) w :=
 enters_of Tryz.func206 (by kernel_rfl) rfl args w
def casFam : Fam where
 M := casC.mac
 inv := fun w F q s => CasF w F q s
 ty := fun _ => 67
 fn := fun _ => 205
 ft := fun _ => 206
 mn := fun _ b w => casM_next b w
 mt := fun _ b w => casM_take b w
 en := fun _ args w => casE_next args w
 et := fun _ args w => casE_take args w
 ts := fun _ _ => rfl
 dom := fun h => ⟨h.1, h.2.1⟩
 mono := fun h k1 k2 => CasF.mono h k1 k2
 keep := fun h k hd => CasF.keep h k hd
 wf := fun {w F q s} h => cas_wf h
 next := fun {w F q s} h => casNext_any h
 take := fun {w F q s x s0 sl sc} h hl hx hr => by
  refine (casTake_any x s0 sl sc h hl ⟨hx.v0, hx.v1⟩).mono ?_
  rintro e w' ⟨rfl, F', g1, g2, g3⟩
  exact ⟨rfl, F', g1, g2, g3⟩
end Go.Proofs.YtggjhleomocojaaGreat
