/- Contract of the reference's Fill over a tape. Conditions: as it says. law10: few, sameErrnos; the chains' state after so many answers. Conditions: as each says. -/
import Derived.Test.YtknahaaefmlcpaaGreatEi
import Derived.Test.YtknahaaefmlcpaaGreatDq
import Derived.Test.YtknahaaefmlcpaaGreatFy
section
namespace Go.Proofs.YtknahaaefmlcpaaGreat
set_option maxRecDepth 100000
open Go.RowKit
set_option linter.unusedVariables false
set_option linter.unusedSimpArgs false
structure FiR (B : Nat) (w : World) (dv pv : Value) (done places : List Int) : Prop where
 od : w.ownsRow 0 28 1 dv done.length (done.map (.int .i64))
 op : w.ownsRow 0 2 1 pv places.length (places.map (.int .i64))
 ld : ∀ i, dv.ownBlock = some i → B ≤ i
 lp : ∀ i, pv.ownBlock = some i → B ≤ i
theorem FiR.keep {B : Nat} {w w' : World} {K : Nat → Prop} {dv pv : Value} {done places : List Int} (h : FiR B w dv pv done places) (k : Keep K w w') (hd : ∀ i, B ≤ i → ¬ K i) : FiR B w' dv pv done places :=
 ⟨ownsRow_keep h.od k (fun i hi => hd i (h.ld i hi)), ownsRow_keep h.op k (fun i hi => hd i (h.lp i hi)), h.ld, h.lp⟩
theorem FiR.below {B : Nat} {w w' : World} {dv pv : Value} {done places : List Int} (h : FiR B w dv pv done places) (b : Below w.heap.size w w') : FiR B w' dv pv done places :=
 ⟨ownsRow_keep h.od (Below.keeps (M := fun _ => False) b) (fun _ _ => id), ownsRow_keep h.op (Below.keeps (M := fun _ => False) b) (fun _ _ => id), h.ld, h.lp⟩
theorem FiR.pushD {B : Nat} {w w4 : World} {dv pv v4 : Value} {done places : List Int} (h : FiR B w dv pv done places) (hB : B ≤ w.heap.size) (e : Int) (k : Keep (fun i => dv.ownBlock = some i) w w4) (o : w4.ownsRow 0 28 1 v4 (done.length + 1) (done.map (.int .i64) ++ [.int .i64 e])) (ho : v4.ownBlock = dv.ownBlock ∨ ∃ i, v4.ownBlock = some i ∧ w.heap.size ≤ i) :
  FiR B w4 v4 pv (done ++ [e]) places := by
 refine ⟨by simpa [List.length_append] using o, ownsRow_keep h.op k (fun i hi => own_neD h.op h.od (by decide) hi), fun i hi => ?_, h.lp⟩
 rcases ho with e' | ⟨j, e', hj⟩
 ·exact h.ld i (e' ▸ hi)
 ·rw [e'] at hi
  cases hi
  omega
theorem FiR.pushP {B : Nat} {w w4 : World} {dv pv v4 : Value} {done places : List Int} (h : FiR B w dv pv done places) (hB : B ≤ w.heap.size) (e : Int) (k : Keep (fun i => pv.ownBlock = some i) w w4) (o : w4.ownsRow 0 2 1 v4 (places.length + 1) (places.map (.int .i64) ++ [.int .i64 e])) (ho : v4.ownBlock = pv.ownBlock ∨ ∃ i, v4.ownBlock = some i ∧ w.heap.size ≤ i) :
  FiR B w4 dv v4 done (places ++ [e]) := by
 refine ⟨ownsRow_keep h.od k (fun i hi => own_neD h.od h.op (by decide) hi), by simpa [List.length_append] using o, h.ld, fun i hi => ?_⟩
 rcases ho with e' | ⟨j, e', hj⟩
 ·exact h.lp i (e' ▸ hi)
 ·rw [e'] at hi
  cases hi
  omega
theorem RdMs.at2 {w : World} {L : Nat → Prop} {a : Option Addr} {n c : Nat} {l : List (Int × List Int)} (h : RdMs w L (.slice a n c) l) {k : Nat} {x : Int × List Int} (hx : l[k]? = some x) : ∃ g off s0 sl sc, a = some ⟨g, off, none⟩ ∧ g < w.heap.size ∧ w.cell? ⟨g, off + k * 2, none⟩ = some (.int .i32 x.1) ∧ w.cell? ⟨g, off + k * 2 + 1, none⟩ = some (.slice s0 sl sc) ∧ RdB w (.slice s0 sl sc) x.2 ∧ (x.2.length ≠ 0 → ∀ j, (Value.slice s0 sl sc).ownBlock = some j → L j) := by
 rcases h with ⟨_, _, _, rfl, _⟩ | ⟨g, off, cap, e1, e2, e3, e4, e5, e6⟩
 ·cases hx
 ·obtain ⟨s0, sl, sc, h1, h2, h3, h4⟩ := e6 k x hx
  cases e1
  exact ⟨g, off, s0, sl, sc, rfl, e5, h1, h2, h3, h4⟩
theorem ChT.keep {M : Mac} {c : ChP M} {t0 : c.τ} {k0 : Nat} {w w' : World} {K : Nat → Prop} {tb : Nat} {tv : Value} {T : List AnsV} {k : Nat} {t : c.τ} (h : ChT c t0 k0 w tb tv T k t) (kk : Keep K w w') (hd : ¬ K tb) : ChT c t0 k0 w' tb tv T k t := ⟨Blk.keep h.tp kk hd, h.kl, h.go⟩
set_option maxHeartbeats 8000000 in
theorem refFill_any {tb k0 : Nat} {tv lv : Value} {T : List AnsV} {L0 : Nat → Prop} {l : List (Int × List Int)} {b s tr : Int} {w : World} (h : Tp w tb tv k0 accZ false) (hT : TOk w tb tv T) (hk : k0 ≤ T.length) (hu : ∀ i, i < T.length → inU (gA T i).v) (hr : RdMs w L0 lv l) (hL : ¬ L0 tb) (hty : ∀ x ∈ l, x.1 ≤ 2147483647)
  (hb0 : -9223372036854775808 ≤ b) (hb1 : b ≤ 9223372036854775807) (hs0 : -9223372036854775808 ≤ s) (hs1 : s ≤ 9223372036854775807) (ht1 : tr ≤ 9223372036854775807) :
  Calls Tryz.prog 44 #[.pointer (some ⟨tb, 0, none⟩), .agg #[.int .i64 b, .int .i64 s], lv, .int .i64 tr] w fun e w' => Keep (· = tb) w w' ∧ ∃ cur t L dv pv, filC.Eat (filC.mo (⟨b, s, l.take 64, max tr 0, [], []⟩ : FilT)) (ans T k0) ((cur, t), L) ∧ e = .returned (.tuple #[dv, pv]) ∧ FiR w.heap.size w' dv pv (FilT.done t) (FilT.places t) ∧ (FilT.done t).length ≤ 64 ∧ (FilT.places t).length ≤ 64 ∧ TpAt filC.mac w' tb tv T ((cur, t), L) := by
 obtain ⟨t0, ht0⟩ : ∃ t0 : FilT, t0 = ⟨b, s, l.take 64, max tr 0, [], []⟩ := ⟨_, rfl⟩
 rw [← ht0]
 have HT0 := Lib.hid ht0
 have HF : Hid (ChT filC t0 k0 w tb tv T k0 t0) := Lib.hid ⟨h, hk, fun E hE => hE⟩
 have HT := Lib.hid hT
 have HU := Lib.hid hu
 have HR := Lib.hid hr
 have HTY := Lib.hid hty
 have hlt := h.lt
 obtain ⟨la, lc, rfl, hlc, hlm⟩ := hr.sl
 obtain ⟨ln, hln⟩ : ∃ ln, ln = l.length := ⟨_, rfl⟩
 have HLN := Lib.hid hln
 rw [← hln] at hlc ⊢
 obtain ⟨ie, hi1, hz0, hz1, hz2⟩ : ∃ i, Tryz.prog.info? 28 = some i ∧ i.zero = some (.int .i64 0) ∧ i.size = 1 ∧ i.bytes = 8 := ⟨_, rfl, rfl, rfl, rfl⟩
 obtain ⟨j, hj1, hy0, hy1, hy2⟩ : ∃ j, Tryz.prog.info? 2 = some j ∧ j.zero = some (.int .i64 0) ∧ j.size = 1 ∧ j.bytes = 8 := ⟨_, rfl, rfl, rfl, rfl⟩
 clear h hT hu hk ht0 hr hty hln
 go_enter Tryz.func44, Tryz.ntmps44
 go_wp2_with fail
 obtain ⟨w1, hw1⟩ : ∃ w1, w1 = w.alloc (Obj.cells #[.int .i64 b, .int .i64 s] 26) := ⟨_, rfl⟩
 have b1 : Below w.heap.size w w1 := by rw [hw1]; go_grown
 have R1 := Lib.hid (show Blk w1 w.heap.size [.int .i64 b, .int .i64 s] by rw [hw1]; exact Blk.made _ _ _)
 have F1 := Lib.hid (HF.out.below b1)
 have T1 := Lib.hid (HT.out.below b1)
 have M1 := Lib.hid (HR.out.below b1)
 have B1 := Lib.hid b1
 have z1 := R1.out.lt
 have z11 : w1.heap.size = w.heap.size + 1 := by rw [hw1]; simp
 rw [← hw1]
 clear hw1 b1 HF HT HR
 go_loopg [3, 10, 11, 19] (ln + 1) (fun gk xv dv pv iv wr => ∃ (i : Nat) (x : Int) (k : Nat) (t : FilT), gk + i = ln + 1 ∧ i ≤ ln ∧ i ≤ 64 ∧ xv = .int .i64 x ∧ x ≤ 9223372036854775807 ∧ iv = .int .i64 i ∧ t.b = b ∧ t.s = s ∧ t.left = (l.take 64).drop i ∧ t.tries = max x 0 ∧ t.done.length ≤ i ∧ t.places.length ≤ i ∧ FiR (w.heap.size + 1) wr dv pv t.done t.places ∧ ChT filC t0 k0 wr tb tv T k t ∧ Keep (· = tb) w1 wr)
 case atStart => exact ⟨0, tr, k0, t0, by omega, by omega, by omega, rfl, ht1, rfl, by rw [HT0.out], by rw [HT0.out], by rw [HT0.out]; rfl, by rw [HT0.out], by rw [HT0.out]; exact Nat.le_refl _, by rw [HT0.out]; exact Nat.le_refl _, by rw [HT0.out]; exact ⟨World.ownsRow_nil _ _ _ _, World.ownsRow_nil _ _ _ _, fun i hi => (nomatch hi), fun i hi => (nomatch hi)⟩, F1.out, Keep.refl _ _⟩
 case round =>
  obtain ⟨i, x, k, t, hgk, hi, hi6, rfl, hx1, rfl, htb, hts, htl, htt, htd, htp, hfr, hF, hK⟩ := hrel
  have zr := hK.size
  obtain ⟨da, dl, dc, rfl⟩ := own_isSl hfr.od
  obtain ⟨pa, pl, pc, rfl⟩ := own_isSl hfr.op
  have HFR := Lib.hid hfr
  have HF := Lib.hid hF
  have HGK := Lib.hid hgk
  have HTL := Lib.hid htl
  have HTT := Lib.hid (And.intro htb (And.intro hts (And.intro htt (And.intro htd htp))))
  have HK := Lib.hid hK
  have R2 := Lib.hid (R1.out.keep hK (by omega))
  have T2 := Lib.hid (T1.out.keep hK)
  have M2 := Lib.hid (M1.out.keep hK (fun i hi e => hL (e ▸ hi)))
  have r0 := R2.out.cell 0
  have r1 := R2.out.cell 1
  have lr := R2.out.lt
  simp only [List.getElem?_cons_zero, List.getElem?_cons_succ] at r0 r1
  have W1 : IntKind.i64.wrap ((i : Int) + 1) = (i : Int) + 1 := IntWalk.i64_in _ ⟨by omega, by omega⟩
  have HEND : Hid (t.left = [] → filC.Eat (filC.mo t0) (ans T k0) ((none, t), ans T k) ∧ TpAt filC.mac wr tb tv T ((none, t), ans T k)) := Lib.hid (fun h => hF.last (fil_mo_nil h))
  have HKW : Hid (Keep (· = tb) w wr) := Lib.hid ((Below.keeps (M := (· = tb)) B1.out).trans hK)
  clear hgk htb hts htl htt htd htp hfr hF hK
  by_cases hil : i < ln
  ·have hii : (i : Int) < (ln : Int) := by omega
   obtain ⟨y, hy⟩ : ∃ y, l[i]? = some y := ⟨_, List.getElem?_eq_getElem (by have := HLN.out; omega)⟩
   obtain ⟨g, off, sa, sl, sc, rfl, hg, m0, m1, hrd, hown⟩ := M2.out.at2 hy
   have HOWN := Lib.hid hown
   clear hown
   by_cases h64 : i = 64
   ·subst h64
    have hnil : t.left = [] := by
     rw [HTL.out]
     exact List.drop_eq_nil_of_le (by rw [List.length_take]; omega)
    have HE := Lib.hid (HEND.out hnil)
    clear hnil
    go_wp2
    go_ret2
    have bb : Below wr.heap.size wr (wr.alloc (Obj.cells #[Value.int IntKind.i32 y.fst, Value.slice sa sl sc] 84)) := (Below.refl _ _).alloc (Nat.le_refl _) _
    have hfr2 := HFR.out.below bb
    have h9 : FiR w.heap.size (wr.alloc (Obj.cells #[Value.int IntKind.i32 y.fst, Value.slice sa sl sc] 84)) (.slice da dl dc) (.slice pa pl pc) t.done t.places := ⟨hfr2.od, hfr2.op, fun i hi => by have := hfr2.ld i hi; omega, fun i hi => by have := hfr2.lp i hi; omega⟩
    first
     | exact ⟨HKW.out.trans (Below.keeps bb), _, _, _, _, _, HE.out.1, rfl, h9, HTT.out.2.2.2.1, HTT.out.2.2.2.2, HE.out.2.below bb⟩
     | exact ⟨HKW.out.trans (Below.keeps bb), _, _, _, HE.out.1, _, _, rfl, h9, HTT.out.2.2.2.1, HTT.out.2.2.2.2, HE.out.2.below bb⟩
   ·have h64' : ¬ (i : Int) = 64 := by omega
    have h64b : ((i : Int) == 64) = false := by simpa using h64'
    have hcons : t.left = y :: (l.take 64).drop (i + 1) := by
     rw [HTL.out]
     have : (l.take 64)[i]? = some y := by rw [List.getElem?_take, if_pos (by omega)]; exact hy
     obtain ⟨hlt9, he9⟩ := List.getElem?_eq_some_iff.1 this
     rw [List.drop_eq_getElem_cons hlt9, he9]
    have HCN := Lib.hid hcons
    have HY := Lib.hid (And.intro hy (HTY.out y (List.mem_of_getElem? hy)))
    have RX := Lib.hid hrd
    have HAP : Hid (y.2.length ≠ 0 → (Value.slice sa sl sc).ownBlock ≠ some tb) := Lib.hid (fun h0 e => hL (HOWN.out h0 tb e))
    clear hcons hy hrd
    go_upto_region 7 with fail
    obtain ⟨w2, hw2⟩ : ∃ w2, w2 = wr.alloc (Obj.cells #[.int .i32 y.1, .slice sa sl sc] 84) := ⟨_, rfl⟩
    have b2 : Below wr.heap.size wr w2 := by rw [hw2]; exact (Below.refl _ _).alloc (Nat.le_refl _) _
    have Y2 := Lib.hid (show Blk w2 wr.heap.size [.int .i32 y.1, .slice sa sl sc] by rw [hw2]; exact Blk.made _ _ _)
    have z2 : w2.heap.size = wr.heap.size + 1 := by rw [hw2]; simp
    have F2 := Lib.hid (HF.out.below b2)
    have T3 := Lib.hid (T2.out.below b2)
    have R3 := Lib.hid (R2.out.below b2 lr)
    have RX2 := Lib.hid (RX.out.below b2)
    have FR2 := Lib.hid (HFR.out.below b2)
    have KW2 := Lib.hid (HKW.out.trans (Below.keeps b2))
    have K2 := Lib.hid (HK.out.trans (Below.keeps b2))
    rw [← hw2]
    clear hw2 b2 m0 m1 r0 r1
    go_wp2_with fail
    go_loopg [3, 10, 11] (x.toNat + 1) (fun gk2 xv2 dv2 pv2 wx => ∃ (x2 : Int) (k2 : Nat) (t2 : FilT), (gk2 : Int) = x2.toNat + 1 ∧ xv2 = .int .i64 x2 ∧ dv2 = .slice da dl dc ∧ pv2 = .slice pa pl pc ∧ x2 ≤ 9223372036854775807 ∧ t2.b = b ∧ t2.s = s ∧ t2.left = y :: (l.take 64).drop (i + 1) ∧ t2.tries = max x2 0 ∧ t2.done = t.done ∧ t2.places = t.places ∧ ChT filC t0 k0 wx tb tv T k2 t2 ∧ Keep (· = tb) w2 wx)
    case atStart => exact ⟨x, k, t, by omega, rfl, rfl, rfl, hx1, HTT.out.1, HTT.out.2.1, HCN.out, HTT.out.2.2.1, rfl, rfl, F2.out, Keep.refl _ _⟩
    case round =>
     obtain ⟨x2, k2, t2, hgk2, rfl, rfl, rfl, hx2, tb2, ts2, tl2, tt2, td2, tp2, hF2, hKx⟩ := hrel
     have HGK2 := Lib.hid hgk2
     have HT2 := Lib.hid (And.intro tb2 (And.intro ts2 (And.intro tl2 (And.intro tt2 (And.intro td2 tp2)))))
     have HF2 := Lib.hid hF2
     have hmo : filC.mo t2 = (some (PutC.init ⟨b, s, y.1, y.2⟩), t2) := by have := fil_mo_cons (t := t2) tl2; rw [tb2, ts2] at this; exact this
     have HMO := Lib.hid hmo
     have zx := hKx.size
     have T4 := Lib.hid (T3.out.keep hKx)
     have R4 := Lib.hid (R3.out.keep hKx (by omega))
     have Y4 := Lib.hid (Y2.out.keep hKx (by omega))
     have RX4 := Lib.hid (RX2.out.keep hKx (fun h0 j hj e => hL (e ▸ HOWN.out h0 j hj)))
     have FR4 := Lib.hid (FR2.out.keep hKx (fun j hj e => by have e : j = tb := e; omega))
     have KX := Lib.hid hKx
     have HPT := Lib.hid (refPut_any tb k2 tv T b s y.1 sa sl sc y.2 wr hF2.tp T4.out hF2.kl HU.out RX4.out HAP.out hb0 hb1 hs0 hs1 HY.out.2)
     clear hgk2 tb2 ts2 tl2 tt2 td2 tp2 hF2 hKx hmo
     have r0 := R4.out.cell 0
     have r1 := R4.out.cell 1
     have m0 := Y4.out.cell 0
     have m1 := Y4.out.cell 1
     have lr4 := R4.out.lt
     have ly4 := Y4.out.lt
     simp only [List.getElem?_cons_zero, List.getElem?_cons_succ] at r0 r1 m0 m1
     go_wp2_with fail
     refine HPT.out.mono ?_
     rintro e w3 ⟨k3, rfl, hat⟩
     have hbz := eat_keeps (M := putMac) PutM.bz (fun m x hl h => PutM.bz_step hl h) (ans T k2) _ (PutC.bz_init ⟨b, s, y.1, y.2⟩)
     have hnx := HF2.out.next HMO.out hat
     obtain ⟨m', hm'⟩ : ∃ m' : PutM, m' = (Mac.eat putMac (PutC.init ⟨b, s, y.1, y.2⟩) (ans T k2)).1 := ⟨_, rfl⟩
     rw [← hm'] at hbz hnx
     rw [show ((PutC.init ⟨b, s, y.1, y.2⟩).eat (ans T k2)).1 = m' from hm'.symm]
     have z3 := k3.size
     have FR3 := Lib.hid (FR4.out.keep k3 (fun j hj e => by have e : j = tb := e; omega))
     have KE3 := Lib.hid ((KW2.out.trans KX.out).trans k3)
     have K3 := Lib.hid ((K2.out.trans KX.out).trans k3)
     have KX3 := Lib.hid (KX.out.trans k3)
     have HNX := Lib.hid hnx
     have HBZ := Lib.hid hbz
     obtain ⟨pos, hpos⟩ : ∃ pos, pos = m'.pos := ⟨_, rfl⟩
     obtain ⟨cl, hcl⟩ : ∃ cl, cl = m'.cl := ⟨_, rfl⟩
     obtain ⟨er, her⟩ : ∃ er, er = m'.e := ⟨_, rfl⟩
     rw [← hpos, ← hcl, ← her]
     have HPOS := Lib.hid hpos
     have HER := Lib.hid her
     clear hat hm' hbz hnx k3 hpos her hcl HPT r0 r1 m0 m1
     rcases HNX.out with ⟨hl, hE, hat⟩ | ⟨hl, k', hc⟩
     ·have he : er = 10 := by
       rw [HER.out]
       rcases HBZ.out with h | h
       ·exact h.2
       ·exact absurd h.1 (by rw [show m'.live = true from hl]; decide)
      have HE := Lib.hid (And.intro hE hat)
      subst he
      clear hE hat
      go_wp2
      go_ret2
      have h9 : FiR w.heap.size w3 (.slice da dl dc) (.slice pa pl pc) t2.done t2.places := by
       rw [HT2.out.2.2.2.2.1, HT2.out.2.2.2.2.2]
       exact ⟨FR3.out.od, FR3.out.op, fun i hi => by have := FR3.out.ld i hi; omega, fun i hi => by have := FR3.out.lp i hi; omega⟩
      have g1 : t2.done.length ≤ 64 := by rw [HT2.out.2.2.2.2.1]; have := HTT.out.2.2.2.1; omega
      have g2 : t2.places.length ≤ 64 := by rw [HT2.out.2.2.2.2.2]; have := HTT.out.2.2.2.2; omega
      first
       | exact ⟨KE3.out, _, _, _, _, _, HE.out.1, rfl, h9, g1, g2, HE.out.2⟩
       | exact ⟨KE3.out, _, _, _, HE.out.1, _, _, rfl, h9, g1, g2, HE.out.2⟩
     have he : ¬ er = 10 := by
      rw [HER.out]
      rcases HBZ.out with h | h
      ·exact absurd h.1 (by rw [show m'.live = false from hl]; decide)
      ·exact h.2
     have HCT : Hid (ChT filC t0 k0 w3 tb tv T k' (FilT.en t2 m')) := Lib.hid hc
     clear hc HNX
     by_cases hfull : er = 5 ∧ 0 < x2
     ·obtain ⟨h5, hx0⟩ := hfull
      have hen : FilT.en t2 m' = { t2 with tries := t2.tries - 1 } := if_pos ⟨by rw [← HER.out]; exact h5, by rw [HT2.out.2.2.2.1]; omega⟩
      have HEN := Lib.hid hen
      have W2 : IntKind.i64.wrap (x2 - 1) = x2 - 1 := IntWalk.i64_in _ ⟨by omega, by omega⟩
      subst h5
      clear hen
      go_wp2_with fail
      go_roundg ((x2 - 1).toNat + 1)
      case measure => have := HGK2.out; omega
      case rel =>
       refine ⟨x2 - 1, k', FilT.en t2 m', by omega, rfl, rfl, rfl, by omega, ?_, ?_, ?_, ?_, ?_, ?_, HCT.out, KX3.out⟩
       ·rw [HEN.out]; exact HT2.out.1
       ·rw [HEN.out]; exact HT2.out.2.1
       ·rw [HEN.out]; exact HT2.out.2.2.1
       ·rw [HEN.out]; show t2.tries - 1 = _; rw [HT2.out.2.2.2.1]; omega
       ·rw [HEN.out]; exact HT2.out.2.2.2.2.1
       ·rw [HEN.out]; exact HT2.out.2.2.2.2.2
     have hen : FilT.en t2 m' = { t2 with left := t2.left.tail, done := t2.done ++ [er], places := if er = 0 then t2.places ++ [m'.rv] else t2.places } := by
      have : FilT.en t2 m' = { t2 with left := t2.left.tail, done := t2.done ++ [m'.e], places := if m'.e = 0 then t2.places ++ [m'.rv] else t2.places } := if_neg (fun hh => hfull ⟨by rw [HER.out]; exact hh.1, by have := hh.2; rw [HT2.out.2.2.2.1] at this; omega⟩)
      rw [this, ← HER.out]
     have HEN := Lib.hid hen
     have HDN := HT2.out.2.2.2.2.1
     have HPN := HT2.out.2.2.2.2.2
     have HDN := Lib.hid HDN
     have HPN := Lib.hid HPN
     have hlt3 : tb < w3.heap.size := by omega
     clear hen
     by_cases h5 : er = 5
     ·have hx0 : ¬ 0 < x2 := by omega
      have hx0' : x2 ≤ 0 := by omega
      subst h5
      have OO := Lib.hid (show ∀ v, (w3.alloc (Obj.cells #[.int .i64 v] 28)).ownsRow 0 28 1 (.slice da dl dc) t.done.length (t.done.map (.int .i64)) from fun v => (FR3.out.below ((Below.refl _ _).alloc (Nat.le_refl _) _)).od)
      have NB := Lib.hid (show ∀ v, Blk (w3.alloc (Obj.cells #[.int .i64 v] 28)) w3.heap.size [.int .i64 v] from fun v => Blk.made w3 #[.int .i64 v] 28)
      go_wp2_with (refine list_app1 rfl (.tmp 49) (.tmp 51) 91 28 rfl Tryz.underlying91 hi1 hz0 hz1 hz2 rfl (by decide) (.slice da dl dc) t.done.length (t.done.map (.int .i64)) rfl (OO.out _) w3.heap.size [.int .i64 5] rfl (NB.out _) rfl (by simp [Value.oneCell']) (by have := HTT.out.2.2.2.1; omega) (by have := HTT.out.2.2.2.1; unfold maxLen; omega) ?_)
      intro v4 w4 o4 g4 e4
      obtain ⟨za, zl, zc, rfl⟩ := own_isSl o4
      have k4 := (Below.keeps (M := fun i => (Value.slice da dl dc).ownBlock = some i) ((Below.refl w3.heap.size w3).alloc (Nat.le_refl _) (Obj.cells #[.int .i64 5] 28))).trans (grown_keep g4)
      have HFR4 := Lib.hid (FR3.out.pushD (by omega) 5 k4 o4 (e4.imp id fun h => ⟨_, h, by simp⟩))
      have nd4 : ¬ (Value.slice da dl dc).ownBlock = some tb := fun e => by have := FR3.out.ld tb e; omega
      have HC4 := Lib.hid (HCT.out.keep k4 nd4)
      have K4 := Lib.hid (K3.out.then k4 (fun j hj e => by have := FR3.out.ld j e; omega))
      have z4 := k4.size
      clear OO NB o4 g4 e4 k4
      go_wp2_with fail
      go_roundg (ln - i)
      case measure => have := HGK.out; omega
      case rel =>
       refine ⟨i + 1, x2, k', FilT.en t2 m', by omega, by omega, by omega, rfl, hx2, by go_num, ?_, ?_, ?_, ?_, ?_, ?_, ?_, HC4.out, K4.out⟩
       ·rw [HEN.out]; exact HT2.out.1
       ·rw [HEN.out]; exact HT2.out.2.1
       ·rw [HEN.out]; show t2.left.tail = _; rw [HT2.out.2.2.1]; rfl
       ·rw [HEN.out]; exact HT2.out.2.2.2.1
       ·rw [HEN.out]; show (t2.done ++ [5]).length ≤ _; rw [HT2.out.2.2.2.2.1, List.length_append]; have := HTT.out.2.2.2.1; simp; omega
       ·rw [HEN.out]; show (if (5 : Int) = 0 then t2.places ++ [m'.rv] else t2.places).length ≤ _; rw [if_neg (by decide), HPN.out]; have := HTT.out.2.2.2.2; omega
       ·rw [HEN.out]; show FiR _ _ _ _ (t2.done ++ [5]) (if (5 : Int) = 0 then t2.places ++ [m'.rv] else t2.places); rw [if_neg (by decide), HPN.out, HDN.out]; exact HFR4.out
     by_cases h0 : er = 0
     ·subst h0
      have OO := Lib.hid (show ∀ v, (w3.alloc (Obj.cells #[.int .i64 v] 28)).ownsRow 0 28 1 (.slice da dl dc) t.done.length (t.done.map (.int .i64)) from fun v => (FR3.out.below ((Below.refl _ _).alloc (Nat.le_refl _) _)).od)
      have NB := Lib.hid (show ∀ v, Blk (w3.alloc (Obj.cells #[.int .i64 v] 28)) w3.heap.size [.int .i64 v] from fun v => Blk.made w3 #[.int .i64 v] 28)
      go_wp2_with (refine list_app1 rfl (.tmp 49) (.tmp 51) 91 28 rfl Tryz.underlying91 hi1 hz0 hz1 hz2 rfl (by decide) (.slice da dl dc) t.done.length (t.done.map (.int .i64)) rfl (OO.out _) w3.heap.size [.int .i64 0] rfl (NB.out _) rfl (by simp [Value.oneCell']) (by have := HTT.out.2.2.2.1; omega) (by have := HTT.out.2.2.2.1; unfold maxLen; omega) ?_)
      intro v4 w4 o4 g4 e4
      obtain ⟨za, zl, zc, rfl⟩ := own_isSl o4
      have k4 := (Below.keeps (M := fun i => (Value.slice da dl dc).ownBlock = some i) ((Below.refl w3.heap.size w3).alloc (Nat.le_refl _) (Obj.cells #[.int .i64 0] 28))).trans (grown_keep g4)
      have HFR4 := Lib.hid (FR3.out.pushD (by omega) 0 k4 o4 (e4.imp id fun h => ⟨_, h, by simp⟩))
      have nd4 : ¬ (Value.slice da dl dc).ownBlock = some tb := fun e => by have := FR3.out.ld tb e; omega
      have HC4 := Lib.hid (HCT.out.keep k4 nd4)
      have K4 := Lib.hid (K3.out.then k4 (fun j hj e => by have := FR3.out.ld j e; omega))
      have z4 := k4.size
      clear OO NB o4 g4 e4 k4
      have OP := Lib.hid (show ∀ v, (w4.alloc (Obj.cells #[.int .i64 v] 2)).ownsRow 0 2 1 (.slice pa pl pc) t.places.length (t.places.map (.int .i64)) from fun v => (HFR4.out.below ((Below.refl _ _).alloc (Nat.le_refl _) _)).op)
      have NP := Lib.hid (show ∀ v, Blk (w4.alloc (Obj.cells #[.int .i64 v] 2)) w4.heap.size [.int .i64 v] from fun v => Blk.made w4 #[.int .i64 v] 2)
      go_wp2_with (refine list_app1 rfl (.tmp 55) (.tmp 57) 93 2 rfl Tryz.underlying93 hj1 hy0 hy1 hy2 rfl (by decide) (.slice pa pl pc) t.places.length (t.places.map (.int .i64)) rfl (OP.out _) w4.heap.size [.int .i64 pos] rfl (NP.out _) rfl (by simp [Value.oneCell']) (by have := HTT.out.2.2.2.2; omega) (by have := HTT.out.2.2.2.2; unfold maxLen; omega) ?_)
      intro v5 w5 o5 g5 e5
      obtain ⟨ya, yl, yc, rfl⟩ := own_isSl o5
      have k5 := (Below.keeps (M := fun i => (Value.slice pa pl pc).ownBlock = some i) ((Below.refl w4.heap.size w4).alloc (Nat.le_refl _) (Obj.cells #[.int .i64 pos] 2))).trans (grown_keep g5)
      have HFR5 := Lib.hid (HFR4.out.pushP (by omega) pos k5 o5 (e5.imp id fun h => ⟨_, h, by simp⟩))
      have nd5 : ¬ (Value.slice pa pl pc).ownBlock = some tb := fun e => by have := FR3.out.lp tb e; omega
      have HC5 := Lib.hid (HC4.out.keep k5 nd5)
      have K5 := Lib.hid (K4.out.then k5 (fun j hj e => by have := FR3.out.lp j e; omega))
      clear OP NP o5 g5 e5 k5
      go_wp2_with fail
      go_roundg (ln - i)
      case measure => have := HGK.out; omega
      case rel =>
       refine ⟨i + 1, x2, k', FilT.en t2 m', by omega, by omega, by omega, rfl, hx2, by go_num, ?_, ?_, ?_, ?_, ?_, ?_, ?_, HC5.out, K5.out⟩
       ·rw [HEN.out]; exact HT2.out.1
       ·rw [HEN.out]; exact HT2.out.2.1
       ·rw [HEN.out]; show t2.left.tail = _; rw [HT2.out.2.2.1]; rfl
       ·rw [HEN.out]; exact HT2.out.2.2.2.1
       ·rw [HEN.out]; show (t2.done ++ [0]).length ≤ _; rw [HT2.out.2.2.2.2.1, List.length_append]; have := HTT.out.2.2.2.1; simp; omega
       ·rw [HEN.out]; show (if (0 : Int) = 0 then t2.places ++ [m'.rv] else t2.places).length ≤ _; rw [if_pos rfl, HPN.out, List.length_append]; have := HTT.out.2.2.2.2; simp; omega
       ·rw [HEN.out]; show FiR _ _ _ _ (t2.done ++ [0]) (if (0 : Int) = 0 then t2.places ++ [m'.rv] else t2.places); rw [if_pos rfl, HPN.out, HDN.out, show m'.rv = pos from by unfold PutM.rv; rw [if_pos HER.out.symm, HPOS.out]]; exact HFR5.out
     ·have h00 : ¬ er = 0 := h0
      have OO := Lib.hid (show ∀ v, (w3.alloc (Obj.cells #[.int .i64 v] 28)).ownsRow 0 28 1 (.slice da dl dc) t.done.length (t.done.map (.int .i64)) from fun v => (FR3.out.below ((Below.refl _ _).alloc (Nat.le_refl _) _)).od)
      have NB := Lib.hid (show ∀ v, Blk (w3.alloc (Obj.cells #[.int .i64 v] 28)) w3.heap.size [.int .i64 v] from fun v => Blk.made w3 #[.int .i64 v] 28)
      go_wp2_with (refine list_app1 rfl (.tmp 49) (.tmp 51) 91 28 rfl Tryz.underlying91 hi1 hz0 hz1 hz2 rfl (by decide) (.slice da dl dc) t.done.length (t.done.map (.int .i64)) rfl (OO.out _) w3.heap.size [.int .i64 er] rfl (NB.out _) rfl (by simp [Value.oneCell']) (by have := HTT.out.2.2.2.1; omega) (by have := HTT.out.2.2.2.1; unfold maxLen; omega) ?_)
      intro v4 w4 o4 g4 e4
      obtain ⟨za, zl, zc, rfl⟩ := own_isSl o4
      have k4 := (Below.keeps (M := fun i => (Value.slice da dl dc).ownBlock = some i) ((Below.refl w3.heap.size w3).alloc (Nat.le_refl _) (Obj.cells #[.int .i64 er] 28))).trans (grown_keep g4)
      have HFR4 := Lib.hid (FR3.out.pushD (by omega) er k4 o4 (e4.imp id fun h => ⟨_, h, by simp⟩))
      have nd4 : ¬ (Value.slice da dl dc).ownBlock = some tb := fun e => by have := FR3.out.ld tb e; omega
      have HC4 := Lib.hid (HCT.out.keep k4 nd4)
      have K4 := Lib.hid (K3.out.then k4 (fun j hj e => by have := FR3.out.ld j e; omega))
      have z4 := k4.size
      clear OO NB o4 g4 e4 k4
      go_wp2_with fail
      go_roundg (ln - i)
      case measure => have := HGK.out; omega
      case rel =>
       refine ⟨i + 1, x2, k', FilT.en t2 m', by omega, by omega, by omega, rfl, hx2, by go_num, ?_, ?_, ?_, ?_, ?_, ?_, ?_, HC4.out, K4.out⟩
       ·rw [HEN.out]; exact HT2.out.1
       ·rw [HEN.out]; exact HT2.out.2.1
       ·rw [HEN.out]; show t2.left.tail = _; rw [HT2.out.2.2.1]; rfl
       ·rw [HEN.out]; exact HT2.out.2.2.2.1
       ·rw [HEN.out]; show (t2.done ++ [er]).length ≤ _; rw [HT2.out.2.2.2.2.1, List.length_append]; have := HTT.out.2.2.2.1; simp; omega
       ·rw [HEN.out]; show (if er = 0 then t2.places ++ [m'.rv] else t2.places).length ≤ _; rw [if_neg h00, HPN.out]; have := HTT.out.2.2.2.2; omega
       ·rw [HEN.out]; show FiR _ _ _ _ (t2.done ++ [er]) (if er = 0 then t2.places ++ [m'.rv] else t2.places); rw [if_neg h00, HPN.out, HDN.out]; exact HFR4.out
  ·have hnl : ¬ (i : Int) < (ln : Int) := by omega
   have hnil : t.left = [] := by
    rw [HTL.out]
    exact List.drop_eq_nil_of_le (by rw [List.length_take]; have := HLN.out; omega)
   have HE := Lib.hid (HEND.out hnil)
   clear hnil
   go_wp2
   go_ret2
   have h9 : FiR w.heap.size wr (.slice da dl dc) (.slice pa pl pc) t.done t.places := ⟨HFR.out.od, HFR.out.op, fun i hi => by have := HFR.out.ld i hi; omega, fun i hi => by have := HFR.out.lp i hi; omega⟩
   have g1 : t.done.length ≤ 64 := by have := HTT.out.2.2.2.1; omega
   have g2 : t.places.length ≤ 64 := by have := HTT.out.2.2.2.2; omega
   first
    | exact ⟨HKW.out, _, _, _, _, _, HE.out.1, rfl, h9, g1, g2, HE.out.2⟩
    | exact ⟨HKW.out, _, _, _, HE.out.1, _, _, rfl, h9, g1, g2, HE.out.2⟩
def fewB (l : List (Int × List Int)) : Bool := l.all (fun x => decide (x.2.length ≤ 300)) && decide (l.length ≤ 12)
theorem fewB_true {l : List (Int × List Int)} (h : fewB l = true) : (∀ x ∈ l, x.2.length ≤ 300) ∧ l.length ≤ 12 := by
 unfold fewB at h
 rw [Bool.and_eq_true] at h
 exact ⟨fun x hx => of_decide_eq_true (List.all_eq_true.1 h.1 x hx), of_decide_eq_true h.2⟩
theorem fewB_not {l : List (Int × List Int)} {x : Int × List Int} (hx : x ∈ l) (h : ¬ x.2.length ≤ 300) : fewB l = false := by
 cases hb : fewB l with
 | false => rfl
 | true => exact absurd ((fewB_true hb).1 x hx) h
theorem fewB_len {l : List (Int × List Int)} (h : ∀ x ∈ l, x.2.length ≤ 300) : fewB l = decide (l.length ≤ 12) := by
 unfold fewB
 rw [List.all_eq_true.2 (fun x hx => decide_eq_true (h x hx)), Bool.true_and]
set_option maxHeartbeats 2000000 in
theorem few_any {w : World} {L0 : Nat → Prop} {lv : Value} {l : List (Int × List Int)} (hr : RdMs w L0 lv l) :
  Calls Tryz.prog 28 #[lv] w fun e w' => e = .returned (.bool (fewB l)) ∧ Below w.heap.size w w' := by
 obtain ⟨la, lc, rfl, hlc, hlm⟩ := hr.sl
 have HR := Lib.hid hr
 obtain ⟨n, hn⟩ : ∃ n, n = l.length := ⟨_, rfl⟩
 have HN := Lib.hid hn
 rw [← hn] at hlc ⊢
 unfold maxLen at hlm
 obtain ⟨bo, hbo⟩ : ∃ bo, bo = fewB l := ⟨_, rfl⟩
 have HBO := Lib.hid hbo
 rw [← hbo]
 clear hr hn hbo
 go_enter Tryz.func28, Tryz.ntmps28
 go_wp2_with fail
 go_loopg [7] (n + 1) (fun gk iv wr => ∃ i : Nat, gk + i = n + 1 ∧ i ≤ n ∧ iv = .int .i64 i ∧ (∀ j x, j < i → l[j]? = some x → x.2.length ≤ 300) ∧ Below w.heap.size w wr)
 case atStart => exact ⟨0, by omega, by omega, rfl, fun j x h => absurd h (Nat.not_lt_zero _), Below.refl _ _⟩
 case round =>
  obtain ⟨i, hgk, hi, rfl, hs, hb⟩ := hrel
  have HGK := Lib.hid hgk
  have HS := Lib.hid hs
  have HB := Lib.hid hb
  clear hgk hs hb
  by_cases hin : i < n
  ·have hii : (i : Int) < (n : Int) := by omega
   have W1 : IntKind.i64.wrap ((i : Int) + 1) = (i : Int) + 1 := IntWalk.i64_in _ ⟨by omega, by omega⟩
   obtain ⟨y, hy⟩ : ∃ y, l[i]? = some y := ⟨_, List.getElem?_eq_getElem (by have := HN.out; omega)⟩
   obtain ⟨g, off, sa, sl, sc, rfl, hg, m0, m1, hrd, _⟩ := (HR.out.below HB.out).at2 hy
   have HSL := Lib.hid (rd_len hrd)
   have HY := Lib.hid hy
   clear hy hrd
   by_cases h3 : (300 : Int) < (sl : Int)
   ·obtain rfl : bo = false := by rw [HBO.out]; exact fewB_not (List.mem_of_getElem? HY.out) (by have := HSL.out; omega)
    go_wp2
    go_ret
    exact ⟨rfl, HB.out.alloc HB.out.size _⟩
   ·go_wp2_with fail
    go_roundg (n - i)
    case measure => have := HGK.out; omega
    case rel =>
     refine ⟨i + 1, by omega, by omega, by go_num, fun j x hj hx => ?_, HB.out.alloc HB.out.size _⟩
     by_cases hji : j < i
     ·exact HS.out j x hji hx
     ·obtain rfl : j = i := by omega
      have := HY.out
      rw [hx] at this
      cases this
      have := HSL.out
      omega
  ·obtain rfl : i = n := by omega
   have hnl : ¬ (i : Int) < (i : Int) := by omega
   have hbo : bo = decide ((i : Int) ≤ 12) := by
    rw [HBO.out, fewB_len (fun x hx => by
     obtain ⟨j, hj⟩ := List.getElem?_of_mem hx
     exact HS.out j x (by have := (List.getElem?_eq_some_iff.1 hj).1; have := HN.out; omega) hj), ← HN.out]
    exact decide_eq_decide.2 (by omega)
   have HB2 := Lib.hid hbo
   clear hbo
   go_wp2
   go_ret
   refine ⟨?_, HB.out⟩
   rw [HB2.out]
   rfl
set_option maxHeartbeats 2000000 in
theorem sameEr_any {w : World} {v1 v2 : Value} {L : List Int} (h1 : w.ownsRow 0 28 1 v1 L.length (L.map (.int .i64))) (h2 : w.ownsRow 0 28 1 v2 L.length (L.map (.int .i64))) (hl : L.length ≤ 1000) :
  Calls Tryz.prog 48 #[v1, v2] w fun e w' => e = .returned (.bool true) ∧ Below w.heap.size w w' := by
 by_cases h0 : L.length = 0
 ·have : L = [] := List.eq_nil_of_length_eq_zero h0
  subst this
  obtain ⟨a1, n1, c1, rfl⟩ := own_isSl h1
  obtain ⟨a2, n2, c2, rfl⟩ := own_isSl h2
  obtain rfl : n1 = 0 := by
   rcases h1.2 with ⟨e, _⟩ | ⟨g, cap, cur, e, _⟩
   ·cases e; rfl
   ·cases e; rfl
  obtain rfl : n2 = 0 := by
   rcases h2.2 with ⟨e, _⟩ | ⟨g, cap, cur, e, _⟩
   ·cases e; rfl
   ·cases e; rfl
  clear h1 h2
  go_enter Tryz.func48, Tryz.ntmps48
  go_wp2_with fail
  refine wp_loop_rounds 1 ?_; rw [rounds_succ]
  go_wp2
  go_ret
  exact ⟨rfl, Below.refl _ _⟩
 ·obtain ⟨g1, c1, rfl, l1, hc1⟩ := own_ints h1 (by omega)
  obtain ⟨g2, c2, rfl, l2, hc2⟩ := own_ints h2 (by omega)
  have HC1 := Lib.hid hc1
  have HC2 := Lib.hid hc2
  obtain ⟨n, hn⟩ : ∃ n, n = L.length := ⟨_, rfl⟩
  have HN := Lib.hid hn
  rw [← hn] at hl h0 ⊢
  clear h1 h2 hc1 hc2 hn
  go_enter Tryz.func48, Tryz.ntmps48
  go_wp2_with fail
  go_loopg [13] (n + 1) (fun gk iv wr => ∃ i : Nat, gk + i = n + 1 ∧ i ≤ n ∧ iv = .int .i64 i ∧ Below w.heap.size w wr)
  case atStart => exact ⟨0, by omega, by omega, rfl, Below.refl _ _⟩
  case round =>
   obtain ⟨i, hgk, hi, rfl, hb⟩ := hrel
   have HGK := Lib.hid hgk
   have HB := Lib.hid hb
   have W1 : IntKind.i64.wrap ((i : Int) + 1) = (i : Int) + 1 := IntWalk.i64_in _ ⟨by omega, by omega⟩
   clear hgk hb
   by_cases hin : i < n
   ·have hii : (i : Int) < (n : Int) := by omega
    obtain ⟨y, hy⟩ : ∃ y, L[i]? = some y := ⟨_, List.getElem?_eq_getElem (by have := HN.out; omega)⟩
    have k1 := (HB.out.cell (p := ⟨g1, i, none⟩) l1).trans (HC1.out i y hy)
    have k2 := (HB.out.cell (p := ⟨g2, i, none⟩) l2).trans (HC2.out i y hy)
    clear hy
    go_wp2_with fail
    go_region
    go_wp2_with fail
    go_roundg (n - i)
    case measure => have := HGK.out; omega
    case rel => exact ⟨i + 1, by omega, by omega, by go_num, HB.out.trans (by go_grown)⟩
   ·obtain rfl : i = n := by omega
    have hnl : ¬ (i : Int) < (i : Int) := by omega
    go_wp2
    go_ret
    exact ⟨rfl, HB.out⟩
theorem eat_foldl {M : Mac} (hd : ∀ s x, M.live s = false → M.step s x = s) : ∀ (L : List AN) (s : M.σ), (Mac.eat M s L).1 = L.foldl M.step s := by
 intro L
 induction L with
 | nil => intro s; rfl
 | cons x L ih =>
  intro s
  by_cases hl : M.live s = true
  ·have e : Mac.eat M s (x :: L) = Mac.eat M (M.step s x) L := by
    conv => lhs; unfold Mac.eat
    exact if_pos hl
   rw [e, ih]
   rfl
  ·have hl' : M.live s = false := by simpa using hl
   rw [eat_done hl']
   have : ∀ L : List AN, L.foldl M.step s = s := by
    intro L
    induction L with
    | nil => rfl
    | cons y L ih2 => rw [List.foldl_cons, hd s y hl']; exact ih2
   exact (this _).symm
theorem ChP.step_end {M : Mac} (c : ChP M) (s : c.mac.σ) (x : AN) (h : c.mac.live s = false) : c.mac.step s x = s := by
 obtain ⟨cur, t⟩ := s
 cases cur with
 | none => rfl
 | some m => cases h
def ChP.aft {M : Mac} (c : ChP M) (t0 : c.τ) (T : List AnsV) : Option M.σ × c.τ := (T.map AnsV.an).foldl c.step (c.start t0)
theorem ChP.aft_eat {M : Mac} {c : ChP M} (hall : ∀ m t, c.fin (c.settle (c.fu t) (some m, t))) (hmo : ∀ t, c.fin (c.settle (c.fu t) (c.mo t))) {t0 : c.τ} {T : List AnsV} {f : Option M.σ × c.τ} {L : List AN} (h : c.Eat (c.mo t0) (ans T 0) (f, L)) : f = c.aft t0 T := by
 have e := h.eat hall (c.fu t0) (hmo t0)
 have e2 := eat_foldl (M := c.mac) (fun s x hs => c.step_end s x hs) (ans T 0) (c.settle (c.fu t0) (c.mo t0))
 rw [e] at e2
 have e3 : ans T 0 = T.map AnsV.an := by unfold ans; rw [List.drop_zero]
 rw [e3] at e2
 exact e2
theorem ChP.aft_step {M : Mac} (c : ChP M) (t0 : c.τ) (T : List AnsV) (x : AnsV) : c.aft t0 (T ++ [x]) = c.step (c.aft t0 T) x.an := by
 unfold ChP.aft
 rw [List.map_append, List.foldl_append]
 rfl
theorem TpAt.allC {M : Mac} {c : ChP M} {w : World} {tb : Nat} {tv : Value} {T : List AnsV} {E : (Option M.σ × c.τ) × List AN} (h : TpAt c.mac w tb tv T E) :
  ∃ K s0 sl sc, Tp w tb tv K ⟨(c.want E.1).k, (c.want E.1).a, (c.want E.1).n, (c.want E.1).v, (c.want E.1).x, .slice s0 sl sc⟩ E.1.1.isSome ∧ RdB w (.slice s0 sl sc) (c.want E.1).b := by
 obtain ⟨⟨cur, t⟩, L⟩ := E
 rcases h with ⟨h1, h2, s0, sl, sc, h3, h4⟩ | ⟨h1, h2⟩
 ·cases cur with
  | none => cases h1
  | some m => exact ⟨_, s0, sl, sc, h3, h4⟩
 ·cases cur with
  | none => exact ⟨_, Option.none, 0, 0, h2, .inl ⟨rfl, rfl⟩⟩
  | some m => cases h1
end Go.Proofs.YtknahaaefmlcpaaGreat
end
