/- The walk of the law TopApart. Conditions: as each says. -/
import Derived.Test.YtggjhleomocojaaGreatUr
import Derived.Test.YtggjhleomocojaaGreatNx
import Derived.Test.YtggjhleomocojaaGreatDy
import Derived.Test.YtggjhleomocojaaGreatUj
import Derived.Test.YtggjhleomocojaaGreatOm
namespace Go.Proofs.YtggjhleomocojaaGreat
set_option maxRecDepth 100000
open Go.RowKit
set_option linter.unusedVariables false
set_option linter.unusedSimpArgs false
theorem apL_at {w : World} {t0 : Option Addr} {tc : Nat} {L : List LsV} (hr : RdR w (.slice t0 L.length tc) 1 (L.map LsV.cs)) {k : Nat} {x : LsV} (hx : L[k]? = some x) : ∃ bk off, t0 = some ⟨bk, off, none⟩ ∧ w.cell? ⟨bk, off + k, none⟩ = some x.s ∧ L.length ≤ tc ∧ tc ≤ maxLen := by
 have hkl := (List.getElem?_eq_some_iff.1 hx).1
 rcases hr with ⟨e, e2⟩ | ⟨_, _, e, e2, _⟩ | ⟨bk, off, cap, e, h1, h2, hc⟩
 ·have : L = [] := by simpa using e2
  rw [this] at hkl
  exact absurd hkl (Nat.not_lt_zero _)
 ·have : L = [] := by simpa using e2
  rw [this] at hkl
  exact absurd hkl (Nat.not_lt_zero _)
 ·rw [List.length_map] at e h1
  cases e
  exact ⟨bk, off, rfl, by have := hc k [x.s] (by rw [List.getElem?_map, hx]; rfl) 0 x.s rfl; simpa using this, h1, h2⟩
theorem pbinfo : (Tryz.prog.info? 27).map (fun i => (i.zero, i.size, i.bytes)) = some (some (.pointer none), 1, 8) := by kernel_rfl
theorem pdinfo : (Tryz.prog.info? 61).map (fun i => (i.zero, i.size, i.bytes)) = some (some (.pointer none), 1, 8) := by kernel_rfl
theorem pxinfo : (Tryz.prog.info? 43).map (fun i => (i.zero, i.size, i.bytes)) = some (some (.pointer none), 1, 8) := by kernel_rfl
theorem made7 : (madeCells #[Value.nilIface] (7 * 1)).toList = rowV (fun _ => none) (fun _ => 0) := by
 simp [madeCells, rowV, apV, List.range, List.range.loop]
theorem ApRow.start {w : World} {g : Nat} (h : Blk w g (rowV (fun _ => none) (fun _ => 0))) : ApRow w w.heap.size g (fun _ => none) (fun _ => none) (fun _ => 0) (fun _ _ => False) :=
 ⟨⟨fun i y e => (by cases e), fun i j b h => h.elim, fun i b h => h.elim⟩, h, h.lt, Nat.le_refl _⟩
set_option maxHeartbeats 8000000 in
theorem apart_main (t0 : Option Addr) (tc : Nat) (Lb : List LsV) (a0 : Option Addr) (cap : Nat) (l : List (Int × List Int)) (L0 : Nat → Prop) (sa : Option Addr) (sn sc : Nat) (pk : List Int) (w : World) (hr : RdR w (.slice t0 Lb.length tc) 1 (Lb.map LsV.cs)) (hL : ∀ x ∈ Lb, LsV.Ok w x) (h3 : Lb.length ≤ 3) (hL0 : ∀ i, L0 i → i < w.heap.size) (hs : RdMs w L0 (.slice a0 l.length cap) l) (hlo : ∀ x ∈ l, (-2147483648 ≤ x.1 ∧ x.1 ≤ 2147483647) ∧ IsB x.2) (rp : RdB w (.slice sa sn sc) pk) (bp : IsB pk) :
  Calls Tryz.prog 4 #[.slice t0 Lb.length tc, .slice a0 l.length cap, .slice sa sn sc] w fun e w' => e = .returned (.bool true) ∧ Below w.heap.size w w' := by
 have HR := Lib.hid hr
 have HL := Lib.hid hL
 have HS := Lib.hid hs
 have HLO := Lib.hid hlo
 have RP := Lib.hid rp
 have BP := Lib.hid bp
 have HSN := Lib.hid (rd_len rp)
 obtain ⟨NL, hNL⟩ : ∃ NL, NL = l.length := ⟨_, rfl⟩
 rw [← hNL]
 have HNL := Lib.hid hNL
 have hi3 : ¬ (3 : Int) < (Lb.length : Int) := by omega
 clear hr hL hs hlo rp bp hNL
 go_enter Tryz.func4, Tryz.ntmps4
 go_wp2_with fail
 refine (moves_any _).mono ?_
 rintro e w1 ⟨rfl, b1⟩
 have z1 := b1.size
 have B1 := Lib.hid b1
 clear b1
 go_wp2_with fail
 rw [HNL.out]
 refine (fewT_any 256 (by decide) (by decide) (HS.out.keep (Below.keeps (M := fun _ => False) B1.out) (fun _ _ => id))).mono ?_
 rintro e w2 ⟨rfl, b2⟩
 rw [← HNL.out]
 have z2 := b2.size
 have B2 := Lib.hid (B1.out.trans (b2.mono z1))
 clear b2
 cases hfw : fewT (256 / 8) l with
 | false =>
  go_wp2
  go_ret
  exact ⟨rfl, B2.out⟩
 | true =>
 have HFT := Lib.hid (fewT_true hfw)
 clear hfw
 by_cases h300 : 300 < sn
 ·have h300i : (300 : Int) < (sn : Int) := by omega
  go_wp2
  go_ret
  exact ⟨rfl, B2.out⟩
 have h300i : ¬ (300 : Int) < (sn : Int) := by omega
 obtain ⟨i0, hi, hz0, hz1, hz2⟩ := info_parts mcinfoO
 go_wp2_with fail
 go_loopw [48] (fun i wr => ∃ k : Nat, k ≤ Lb.length ∧ i = .int .i64 k ∧ Below w2.heap.size w2 wr ∧ ∀ j, j < k → ∀ x, Lb[j]? = some x → fewT (256 / 8) x.l = true) (fun i _ => Lb.length - (intOf i).toNat)
 case atStart => exact ⟨0, by omega, rfl, Below.refl _ _, fun j h => absurd h (Nat.not_lt_zero _)⟩
 case round =>
  obtain ⟨k, hk, rfl, hB, hsm⟩ := hrel
  have zr := hB.size
  have HBL := Lib.hid (B2.out.trans (hB.mono B2.out.size))
  have HB := Lib.hid hB
  have HSM := Lib.hid hsm
  clear hB hsm
  by_cases hkl : k < Lb.length
  ·as_aux_lemma =>
   obtain ⟨x, hx⟩ : ∃ x, Lb[k]? = some x := ⟨_, List.getElem?_eq_getElem hkl⟩
   have HXK := Lib.hid hx
   have hxm := HL.out x (List.mem_of_getElem? hx)
   obtain ⟨bk, off, rfl, hcell, hc1, hc2⟩ := apL_at HR.out hx
   obtain ⟨⟨xa, xn, xc, hsv⟩, hrd, hib⟩ := hxm
   rw [hsv] at hcell hrd
   have hcr := (HBL.out.cell (p := ⟨bk, off + k, none⟩) (World.block_lt_of_cell? w _ hcell)).trans hcell
   have RX := Lib.hid (hrd.below HBL.out)
   have hki : (k : Int) < (Lb.length : Int) := by omega
   clear hcell hrd hib hsv hx
   go_wp2_with fail
   refine (fewT_any 256 (by decide) (by decide) RX.out).mono ?_
   rintro e wf ⟨rfl, bf⟩
   have BF := Lib.hid bf
   have zf := bf.size
   clear bf
   cases hfw : fewT (256 / 8) x.l with
   | false =>
    go_wp2
    go_ret
    exact ⟨rfl, HBL.out.trans (BF.out.mono HBL.out.size)⟩
   | true =>
   have HFW := Lib.hid hfw
   clear hfw
   go_wp2
   refine ⟨⟨k + 1, by omega, by go_num, HB.out.trans (BF.out.mono HB.out.size), fun j hj y hy => ?_⟩, by simp [intOf]; omega⟩
   by_cases hjk : j < k
   ·exact HSM.out j hjk y hy
   ·obtain rfl : j = k := by omega
    rw [HXK.out] at hy
    cases hy
    exact HFW.out
  ·obtain rfl : k = Lb.length := by omega
   have HFW := Lib.hid (show ∀ x ∈ Lb, (∀ y ∈ x.l, (y.2.length : Int) ≤ 256 / 8 ∧ 1 ≤ y.1) ∧ x.l.length ≤ 12 from fun x hx => by
    obtain ⟨j, hj⟩ := List.getElem?_of_mem hx
    exact fewT_true (HSM.out j (List.getElem?_eq_some_iff.1 hj).1 x hj))
   clear hkl HSM HB B2 B1
   go_upto_region 11 with fail
   go_cut [9, 10] from 56 to 57 (fun x y wx => ∃ rb cb, x = .pointer (some ⟨rb, 0, none⟩) ∧ y = .pointer (some ⟨cb, 0, none⟩) ∧ Blk wx rb [.int .i64 8, .int .i64 256] ∧ Blk wx cb [.int .i64 304, .int .i64 256] ∧ Below wr.heap.size wr wx ∧ wr.heap.size ≤ rb ∧ wr.heap.size ≤ cb)
   case first =>
    go_wp2_with fail
    go_meet
    exact ⟨_, _, rfl, rfl, (Blk.made wr #[.int .i64 8, .int .i64 256] _).below ((Below.refl _ _).alloc (Nat.le_refl _) _) (by simp), Blk.made1 wr _ #[.int .i64 304, .int .i64 256] _, ((Below.refl _ _).alloc (Nat.le_refl _) _).alloc (by simp) _, Nat.le_refl _, Nat.le_succ _⟩
   case rest =>
    obtain ⟨rb, cb, rfl, rfl, hrb, hcb, bb, lr, lc⟩ := hcut
    have X0 := Lib.hid hrb
    have Y0 := Lib.hid hcb
    have zc := bb.size
    have lr2 := hrb.lt
    have lc2 := hcb.lt
    have B0 := Lib.hid (HBL.out.trans (bb.mono HBL.out.size))
    have hwz : w.heap.size ≤ wr.heap.size := HBL.out.size
    clear hrb hcb bb HBL
    obtain ⟨FL, hFL⟩ : ∃ FL : List (Option PutM × FilT), FL = Lb.map (fun x => filC.start (⟨8, 256, x.l.take 64, max 5 0, [], []⟩ : FilT)) := ⟨_, rfl⟩
    obtain ⟨D0, hD0⟩ : ∃ D0 : Option GetM × DraT, D0 = draC.start (⟨8, 256, min 20 64, 3, []⟩ : DraT) := ⟨_, rfl⟩
    obtain ⟨C0, hC0⟩ : ∃ C0 : Option SenM × CasT, C0 = casC.start (⟨304, 256, l.take 64, [], []⟩ : CasT) := ⟨_, rfl⟩
    obtain ⟨E0, hE0⟩ : ∃ E0 : Option HeaM × RelT, E0 = relC.start (⟨304, 256, ⟨0, 0, 0⟩, min 20 64, [], 0⟩ : RelT) := ⟨_, rfl⟩
    obtain ⟨JS, hJS⟩ : ∃ JS : List Nat, JS = pk.map (fun x => (x % 7).toNat) := ⟨_, rfl⟩
    obtain ⟨T, hT⟩ : ∃ T : Nat → SW apM.σ, T = fun j => apM.pks JS (apS (List.replicate (8 * 128) 0) (decide (j ≠ 2)) (decide (j ≠ 1)) FL D0 C0 E0) := ⟨_, rfl⟩
    have HFL := Lib.hid hFL
    have HD0 := Lib.hid hD0
    have HC0 := Lib.hid hC0
    have HE0 := Lib.hid hE0
    have HJS := Lib.hid hJS
    have HT := Lib.hid hT
    have hfl : FL.length = Lb.length := (congrArg List.length hFL).trans (List.length_map ..)
    obtain ⟨n3, hn3⟩ : ∃ n3, n3 = Lb.length := ⟨_, rfl⟩
    have HN3 := Lib.hid hn3
    obtain ⟨j0, hj, hy0, hy1, hy2⟩ := info_parts pbinfo
    obtain ⟨k0, hq, hx0, hx1, hx2⟩ := info_parts pdinfo
    obtain ⟨l0, hv, hu0, hu1, hu2⟩ := info_parts pxinfo
    clear hFL hD0 hC0 hE0 hJS hT hn3
    have LP := Lib.hid (ApLoop.start wc (Nat.le_refl _) T)
    go_wp2_with fail
    go_loopw [11, 12, 13, 58] (fun bv dv xv i wr => ∃ (k : Nat) (As : List ApR) (U : Nat → Prop), k ≤ 3 ∧ i = .int .i64 k ∧ ApLoop wr wc.heap.size T k As U bv dv xv ∧ Below wc.heap.size wc wr) (fun _ _ _ i _ => 3 - (intOf i).toNat)
    case atStart => exact ⟨0, [], _, by omega, rfl, LP.out, Below.refl _ _⟩
    case round =>
     obtain ⟨k, As, U, hk, rfl, hP, hBw⟩ := hrel
     have HP := Lib.hid hP
     have HBW := Lib.hid hBw
     have BW := Lib.hid (B0.out.trans (hBw.mono B0.out.size))
     obtain ⟨ba, bc, rfl⟩ := ap_slice hP.b
     obtain ⟨da, dc, rfl⟩ := ap_slice hP.d
     obtain ⟨xa, xc, rfl⟩ := ap_slice hP.x
     have zw := hBw.size
     obtain ⟨wi, rfl⟩ : ∃ wi, wi = wr := ⟨_, rfl⟩
     clear hP hBw LP
     by_cases hk3 : k < 3
     ·have hk3i : (k : Int) < 3 := by omega
      go_wp2_with fail
      refine (mNew_at 1024 128 _ (by decide) (by decide) (by decide)).mono ?_
      rintro e w3 ⟨p, c, rfl, hb3, hp, hc, b3⟩
      have z3 := b3.size
      have HB3 := Lib.hid hb3
      have B3 := Lib.hid b3
      have lpc := hb3.hd.lt
      have lcc := Blk.lt hb3.wd
      clear hb3 b3
      go_wp2_with (refine wpList_make_full _ rfl _ _ 39 rfl w3.heap.size 66 i0 .nilIface 1 Tryz.underlying39 hi hz0 hz1 _ _ _ _ 7 rfl rfl rfl rfl (by rw [hz2]; omega) (by unfold maxLen; omega) (Nat.le_refl _) ?_)
      intro w5 o5 g5
      have k5 : Keep (fun i => (none : Option Nat) = some i) w3 w5 := grown_keep (show w3.grownBy w5 (Value.slice none 0 0).ownBlock from g5)
      have z5 := k5.size
      have E5 := own_full o5
      rw [made7] at E5
      have hn5 : ∀ i, ¬ ((none : Option Nat) = some i) := nofun
      have b5 : Below w3.heap.size w3 w5 := k5.below (Nat.le_refl _) (fun i _ => hn5 i)
      obtain ⟨g, hg⟩ : ∃ g, g = w3.heap.size := ⟨_, rfl⟩
      rw [← hg] at E5 ⊢
      have hg5 := E5.lt
      have R5 := Lib.hid (ApRow.start E5)
      have HB5 := Lib.hid (HB3.out.belows b5)
      have B5 := Lib.hid (B3.out.trans (b5.mono z3))
      have X5 := Lib.hid ((X0.out.below HBW.out lr2).below B5.out (by omega))
      have Y5 := Lib.hid ((Y0.out.below HBW.out lc2).below B5.out (by omega))
      have HG := Lib.hid hg
      have hgi : wi.heap.size ≤ g := by omega
      have hpg : p < g ∧ c < g := by omega
      clear hg k5 g5 o5 E5 hn5 b5 HB3 B3
      obtain ⟨r, hrk⟩ : ∃ r, r = decide (k ≠ 2) := ⟨_, rfl⟩
      obtain ⟨cc, hck⟩ : ∃ cc, cc = decide (k ≠ 1) := ⟨_, rfl⟩
      have HRK := Lib.hid hrk
      have HCK := Lib.hid hck
      clear hrk hck
      have lr5 := X5.out.lt
      have lc5 := Y5.out.lt
      have hrg : rb ≠ g ∧ cb ≠ g := by omega
      have z5w : w.heap.size ≤ wi.heap.size := BW.out.size
      have HSN5 := Lib.hid (show RdMs w5 L0 (.slice a0 NL cap) l by
       rw [HNL.out]
       exact HS.out.keep (Below.keeps (M := fun _ => False) (BW.out.trans (B5.out.mono BW.out.size))) (fun _ _ => id))
      go_upto_region 22 with fail
      go_cut [18, 19] from 68 to 72 (fun dv xv wx => ∃ (qd qx : Nat) (qs : Nat → Nat) (Fs : Nat → Nat → Prop), dv = .pointer (some ⟨qd, 0, none⟩) ∧ xv = .pointer (some ⟨qx, 0, none⟩) ∧ ApRow wx w5.heap.size g (msF r FL 0) (mkF r FL 0 D0 E0) qs Fs ∧ qs 3 = qd ∧ qs 5 = qx ∧ Below w5.heap.size w5 wx)
      case first =>
       as_aux_lemma =>
       have y0 := X5.out.cell 0
       have y1 := X5.out.cell 1
       have y2 := Y5.out.cell 0
       have y3 := Y5.out.cell 1
       simp only [List.getElem?_cons_zero, List.getElem?_cons_succ] at y0 y1 y2 y3
       go_wp2_with fail
       go_region_held3 (fun w' => w'.cell? ⟨rb, 0, none⟩ = some (.int .i64 8) ∧ w'.cell? ⟨rb, 1, none⟩ = some (.int .i64 256) ∧ w'.cell? ⟨cb, 0, none⟩ = some (.int .i64 304) ∧ w'.cell? ⟨cb, 1, none⟩ = some (.int .i64 256)) (first | go_keep | trivial)
        (first
         | (go_at_call 20; refine (draNew_any 8 256 20 3 _ (by decide) (by decide) (by decide) (by decide)).mono ?_; rintro e w6 ⟨qd, Fd, rfl, hqd, hd6, hdF, b6⟩; unfold ptr; have hc1 := fun o => b6.cell (p := ⟨rb, o, none⟩) (by simpa using lr5); have hc2 := fun o => b6.cell (p := ⟨cb, o, none⟩) (by simpa using lc5))
         | (go_at_call 14; refine (relNew_any 304 256 ⟨0, 0, 0⟩ 20 _ (by decide) (by decide) (by decide) (by decide)).mono ?_; rintro e w7 ⟨qx, Fx, rfl, hqx, hx7, hxF, b7⟩; unfold ptr; have hc3 := fun o => b7.cell (p := ⟨rb, o, none⟩) (by have := b6.size; simp at this ⊢; omega); have hc4 := fun o => b7.cell (p := ⟨cb, o, none⟩) (by have := b6.size; simp at this ⊢; omega)))
       all_goals
        rw [← HD0.out] at hd6
        rw [← HE0.out] at hx7
        have B6 : Below w5.heap.size w5 w6 := (by go_grown : Below w5.heap.size w5 _).trans b6
        have B7 : Below w6.heap.size w6 w7 := (by go_grown : Below w6.heap.size w6 _).trans b7
        have R6 := R5.out.add B6 (i := 3) (by decide) rfl (y := .inl (.inr D0)) hd6 hdF
        have R7 := R6.add B7 (i := 5) (by decide) rfl (y := .inr (.inr E0)) hx7 hxF
        go_wp2_with fail
        go_meet
        exact ⟨qd, qx, _, _, rfl, rfl, ApRow.made r R7, rfl, rfl, B6.trans (B7.mono B6.size)⟩
      case rest =>
       obtain ⟨qd, qx, qs0, Fs0, rfl, rfl, hR0, hq3, hq5, hB0⟩ := hcut
       have R0 := Lib.hid hR0
       have K0 := Lib.hid (Below.keeps (M := fun b => b = g) hB0)
       clear hR0 hB0 R5
       go_wp2_with fail
       go_loopw [75] (fun i wl => ∃ (j : Nat) (qs : Nat → Nat) (Fs : Nat → Nat → Prop), j ≤ Lb.length ∧ i = .int .i64 j ∧ ApRow wl w5.heap.size g (msF r FL j) (mkF r FL j D0 E0) qs Fs ∧ qs 3 = qd ∧ qs 5 = qx ∧ Keep (fun b => b = g) w5 wl) (fun i _ => Lb.length - (intOf i).toNat)
       case atStart => exact ⟨0, _, _, by omega, rfl, R0.out, hq3, hq5, K0.out⟩
       case round =>
        obtain ⟨j, qs, Fs, hj, rfl, hR, hq3, hq5, hK⟩ := hrel
        have HW := Lib.hid hR
        have HK := Lib.hid hK
        have zj := hK.size
        clear hR hK R0 K0
        by_cases hjl : j < Lb.length
        ·as_aux_lemma =>
         obtain ⟨x, hx⟩ : ∃ x, Lb[j]? = some x := ⟨_, List.getElem?_eq_getElem hjl⟩
         have HXK := Lib.hid hx
         have hxm := HL.out x (List.mem_of_getElem? hx)
         obtain ⟨bk, off, rfl, hcell, hc1, hc2⟩ := apL_at HR.out hx
         obtain ⟨⟨ya, yn, yc, hsv⟩, hrd, hib⟩ := hxm
         rw [hsv] at hcell hrd
         have hbk := World.block_lt_of_cell? w _ hcell
         have BR := (BW.out.trans (B5.out.mono BW.out.size)).trans (HK.out.below (B := w.heap.size) (by omega) (fun i hi h => by have h : i = g := h; omega))
         have hcr := (BR.cell (p := ⟨bk, off + j, none⟩) hbk).trans hcell
         have RX := Lib.hid (hrd.below BR)
         have HIB := Lib.hid hib
         have HFW := Lib.hid (HFW.out x (List.mem_of_getElem? hx))
         have hji : (j : Int) < (Lb.length : Int) := by omega
         have hji7 : (j : Int) < 7 := by omega
         have hji0 : (0 : Int) ≤ (j : Int) := by omega
         have hj3 : j < 3 := by omega
         clear hcell hrd hib hsv hx BR
         by_cases hk2 : k = 2
         ·have hk2i : (k : Int) = 2 := by omega
          have hrf : r = false := by rw [HRK.out, hk2]; rfl
          subst hrf
          go_wp2
          exact ⟨⟨j + 1, qs, Fs, by omega, by go_num, HW.out.skip, hq3, hq5, HK.out⟩, by simp [intOf]; omega⟩
         ·have hk2i : ¬ (k : Int) = 2 := by omega
          have hrf : r = true := by rw [HRK.out]; exact decide_eq_true hk2
          subst hrf
          have XJ := Lib.hid (X5.out.keep HK.out (fun h => hrg.1 h))
          have y0 := XJ.out.cell 0
          have y1 := XJ.out.cell 1
          have lxj := XJ.out.lt
          simp only [List.getElem?_cons_zero, List.getElem?_cons_succ] at y0 y1
          go_wp2_with fail
          refine (filNew_any 8 256 5 _ x.l _ _ RX.out (fun y hy => ⟨(HIB.out y hy).2, by have := HFW.out.1 y hy; omega⟩) (by decide) (by decide) (by decide) (by decide) (by decide)).mono ?_
          rintro e wf ⟨q, F, rfl, hq, hinv, hFf, bf⟩
          have hfl9 : FL[j]? = some (filC.start (⟨8, 256, x.l.take 64, max 5 0, [], []⟩ : FilT)) := (congrArg (fun L : List (Option PutM × FilT) => L[j]?) HFL.out).trans (fl_at LsV.l HXK.out)
          have GB := (HW.out.below bf).b
          have lg := GB.lt
          have fz := GB.frozen j
          have gc := (GB.cell j).trans (rowV_at _ _ (show j < 7 by omega))
          have RN := Lib.hid (HW.out.next hj3 bf hfl9 hinv hFf)
          have KN := Lib.hid ((HK.out.trans (Below.keeps bf)).setCell (p := ⟨g, j, none⟩) (.inl rfl) (.iface 63 (ptr q)))
          have zf := bf.size
          clear hinv hFf bf y0 y1
          unfold ptr
          go_wp2
          exact ⟨⟨j + 1, upF qs j q, upF Fs j F, by omega, by go_num, RN.out, (upF_ne _ _ (by omega)).trans hq3, (upF_ne _ _ (by omega)).trans hq5, KN.out⟩, by simp [intOf]; omega⟩
        ·obtain rfl : j = Lb.length := by omega
         rw [← hfl] at HW
         clear hjl hj
         go_upto_if 91 with fail
         go_cut [] from 91 to 95 (fun wx => ApRow wx w5.heap.size g (ms1 r FL FL.length D0) (mkF r FL FL.length D0 E0) qs Fs ∧ Keep (fun b => b = g) w5 wx)
         case first =>
          as_aux_lemma =>
          by_cases hk2 : k = 2
          ·have hk2i : (k : Int) = 2 := by omega
           have hrf : r = false := by rw [HRK.out, hk2]; rfl
           subst hrf
           go_wp2_with fail
           go_meet
           exact ⟨HW.out.if1n, HK.out⟩
          ·have hk2i : ¬ (k : Int) = 2 := by omega
           have hrf : r = true := by rw [HRK.out]; exact decide_eq_true hk2
           subst hrf
           have GB := HW.out.b
           have lg := GB.lt
           have fz := GB.frozen 3
           have gc := (GB.cell 3).trans (rowV_at _ _ (show 3 < 7 by omega))
           have RN := Lib.hid HW.out.if1
           rw [hq3] at RN
           have KN := Lib.hid (HK.out.setCell (p := ⟨g, 3, none⟩) (.inl rfl) (.iface 61 (ptr qd)))
           unfold ptr at RN KN
           go_wp2_with fail
           go_meet
           exact ⟨RN.out, KN.out⟩
         case rest =>
          obtain ⟨hR1, hK1⟩ := hcut
          have R1 := Lib.hid hR1
          have K1 := Lib.hid hK1
          have z1c := hK1.size
          clear hR1 hK1 HW HK
          go_upto_if 97 with fail
          go_cut [] from 97 to 107 (fun wx => ∃ (qs' : Nat → Nat) (Fs' : Nat → Nat → Prop), ApRow wx w5.heap.size g (apAt r cc FL D0 C0 E0) (apAt r cc FL D0 C0 E0) qs' Fs' ∧ qs' 3 = qd ∧ qs' 5 = qx ∧ Keep (fun b => b = g) w5 wx)
          case first =>
           as_aux_lemma =>
           by_cases hk1 : k = 1
           ·have hk1i : (k : Int) = 1 := by omega
            have hcf : cc = false := by rw [HCK.out, hk1]; rfl
            subst hcf
            go_wp2_with fail
            go_meet
            exact ⟨qs, Fs, R1.out.if2n (by omega) _, hq3, hq5, K1.out⟩
           ·have hk1i : ¬ (k : Int) = 1 := by omega
            have hcf : cc = true := by rw [HCK.out]; exact decide_eq_true hk1
            subst hcf
            have YJ := Lib.hid (Y5.out.keep K1.out (fun h => hrg.2 h))
            have y0 := YJ.out.cell 0
            have y1 := YJ.out.cell 1
            have lyj := YJ.out.lt
            simp only [List.getElem?_cons_zero, List.getElem?_cons_succ] at y0 y1
            go_wp2_with fail
            refine (casNew_any 304 256 _ l _ _ (HSN5.out.keep K1.out (fun i hi h => by have := hL0 i hi; have h : i = g := h; omega)) (fun y hy => ⟨(HLO.out y hy).2, by have := HFT.out.1 y hy; omega⟩) (by decide) (by decide) (by decide) (by decide)).mono ?_
            rintro e wf ⟨q, F, rfl, hq, hinv, hFf, bf⟩
            rw [← HC0.out] at hinv
            have GB := (R1.out.below bf).b
            have lg := GB.lt
            have fz := GB.frozen 4
            have fz5 := GB.frozen 5
            have gc := (GB.cell 4).trans (rowV_at _ _ (show 4 < 7 by omega))
            have gc5 := (GB.cell 5).trans (rowV_at _ _ (show 5 < 7 by omega))
            have RN := Lib.hid (R1.out.if2 (by omega) bf hinv hFf)
            rw [hq5] at RN
            have KN := Lib.hid (((K1.out.trans (Below.keeps bf)).setCell (p := ⟨g, 4, none⟩) (.inl rfl) (.iface 67 (ptr q))).setCell (p := ⟨g, 5, none⟩) (.inl rfl) (.iface 43 (ptr qx)))
            have zf := bf.size
            clear hinv hFf bf y0 y1
            unfold ptr at RN KN
            unfold ptr
            go_wp2_with fail
            go_meet
            exact ⟨upF qs 4 q, upF Fs 4 F, RN.out, (upF_ne _ _ (by decide)).trans hq3, (upF_ne _ _ (by decide)).trans hq5, KN.out⟩
          case rest =>
           obtain ⟨qs2, Fs2, hR2, hq23, hq25, hK2⟩ := hcut
           have R2 := Lib.hid hR2
           have K2 := Lib.hid hK2
           have z2c := hK2.size
           have HB2c := Lib.hid (HB5.out.keep hK2 (fun h => by have h : p = g := h; omega) (fun h => by have h : c = g := h; omega))
           have BI2 := Lib.hid (B5.out.trans (hK2.below (B := wi.heap.size) B5.out.size (fun i hi h => by have h : i = g := h; omega)))
           clear hR2 hK2 R1 K1
           go_wp2_with fail
           refine (apNew (lo0 := wi.heap.size) HB2c.out R2.out (by omega) (by omega)).mono ?_
           rintro e wm ⟨W, κm, av, ab, rfl, hA, hκm, bm⟩
           obtain ⟨S0, hS0⟩ : ∃ S0 : SW apQ.M.σ, S0 = apQS (List.replicate (8 * 128) 0) r cc FL D0 C0 E0 qs2 := ⟨_, rfl⟩
           rw [← hS0] at hA
           have HS0 := Lib.hid hS0
           have HA := Lib.hid hA
           have HKM := Lib.hid hκm
           have BIM := Lib.hid (BI2.out.trans (bm.mono BI2.out.size))
           have zm := BIM.out.size
           have hjl9 : JS.length = pk.length := by rw [HJS.out, List.length_map]
           clear hA hκm bm hS0 HB2c R2 K2 BI2
           go_wp2_with fail
           go_loopw [113] (fun i wl => ∃ (n : Nat) (κ1 : Nat → Kd) (tv : Value) (S : SW apQ.M.σ), n ≤ sn ∧ i = .int .i64 n ∧ ApAt wm wl κm κ1 W p c av tv ab n S0 S (JS.take n)) (fun i _ => sn - (intOf i).toNat)
           case atStart => exact ⟨0, _, _, _, by omega, rfl, HA.out⟩
           case round =>
            obtain ⟨n, κ1, tv, S, hn, rfl, hO⟩ := hrel
            have HO := Lib.hid hO
            have BL := Lib.hid (BIM.out.trans (hO.kp.below (B := wi.heap.size) BIM.out.size (fun i hi h => by have := HKM.out i h; omega)))
            have zl := hO.kp.size
            clear hO HA
            by_cases hnl : n < sn
            ·as_aux_lemma =>
             have hni : (n : Int) < (sn : Int) := by omega
             obtain ⟨bk, off, rfl, hcell, hc1, hc2⟩ := rdB_at RP.out (k := n) (by have := HSN.out; omega)
             have hcr := ((BW.out.trans (BL.out.mono BW.out.size)).cell (p := ⟨bk, off + n, none⟩) (World.block_lt_of_cell? w _ hcell)).trans hcell
             have hxb := BP.out.getD n
             obtain ⟨x, hx⟩ : ∃ x, x = gB pk n := ⟨_, rfl⟩
             rw [← hx] at hcr hxb
             have hJn : JS[n]? = some (x % 7).toNat := by rw [HJS.out, List.getElem?_map, List.getElem?_eq_getElem (show n < pk.length by have := HSN.out; omega), ← gB_get _ _ (show n < pk.length by have := HSN.out; omega), ← hx]; rfl
             obtain ⟨j, hj⟩ : ∃ j : Nat, x % 7 = j := ⟨(x % 7).toNat, by have := Int.emod_nonneg x (show (7 : Int) ≠ 0 by decide); omega⟩
             have hjt : x.tmod 7 = (j : Int) := by rw [Int.tmod_eq_emod_of_nonneg hxb.1]; exact hj
             have htk : JS.take (n + 1) = JS.take n ++ [j] := by rw [List.take_add_one, hJn, hj]; rfl
             have HTK := Lib.hid htk
             have W2 : IntKind.i64.wrap (j : Int) = (j : Int) := IntWalk.i64_in _ ⟨by omega, by omega⟩
             clear hcell hj hx hJn htk
             go_wp2_with fail
             refine (wPick_step HO.out.wo j 0 HO.out.c0 (by have := HO.out.c1; omega) (by have := HO.out.tr; omega)).mono ?_
             rintro e w' hp
             obtain ⟨κ2, tv2, hO2⟩ := HO.out.pick (j := j) hp
             obtain ⟨_, _, _, _, _, _, rfl, _⟩ := hp
             rw [← HTK.out] at hO2
             have HO2 := Lib.hid hO2
             clear hO2
             go_wp2
             exact ⟨⟨n + 1, κ2, tv2, _, by omega, by go_num, HO2.out⟩, by simp [intOf]; omega⟩
            ·obtain rfl : n = sn := by omega
             have hTK : JS.take n = JS := List.take_of_length_le (by have := HSN.out; omega)
             have HIN := Lib.hid (show ApIn wr (fun i => wi.heap.size ≤ i ∧ i < wr.heap.size) (T k) (decide (k ≠ 2)) (decide (k ≠ 1)) p c qd qx from by
              have h := HO.out
              rw [hTK, HS0.out] at h
              have h := h.done (lo := wi.heap.size) (fun i hi => HKM.out i hi) BIM.out.size
              rw [hq23, hq25, HRK.out, HCK.out] at h
              rw [HT.out]
              exact h)
             have bA : Below wr.heap.size wr (wr.alloc (Obj.cells #[.pointer (some ⟨p, 0, none⟩)] 27)) := (Below.refl _ _).alloc (Nat.le_refl _) _
             have KA := Lib.hid (show Keep (fun i => (Value.slice ba k bc).ownBlock = some i) wr (wr.alloc (Obj.cells #[.pointer (some ⟨p, 0, none⟩)] 27)) from Below.keeps bA)
             have OO := Lib.hid (ownsRow_keep HP.out.b (Below.keeps (M := fun _ => False) (BL.out.trans (bA.mono BL.out.size))) (fun _ _ => id))
             have NB := Lib.hid (show Blk (wr.alloc (Obj.cells #[.pointer (some ⟨p, 0, none⟩)] 27)) wr.heap.size [.pointer (some ⟨p, 0, none⟩)] from Blk.made wr _ _)
             have DM := Lib.hid (ownsRow_keep HP.out.d (Below.keeps (M := fun _ => False) BL.out) (fun _ _ => id))
             have XM := Lib.hid (ownsRow_keep HP.out.x (Below.keeps (M := fun _ => False) BL.out) (fun _ _ => id))
             clear hTK bA HO
             go_wp2_with (refine list_app1 rfl (.tmp 124) (.tmp 126) 58 27 rfl Tryz.underlying58 hj hy0 hy1 hy2 rfl (by decide) (.slice ba k bc) k (As.map fun a => ptr a.p) rfl OO.out wr.heap.size [.pointer (some ⟨p, 0, none⟩)] rfl NB.out rfl (by simp [Value.oneCell']) (by omega) (by unfold maxLen; omega) ?_)
             intro v5 w6 o6 g6 e6
             have k6 : Keep (fun i => (Value.slice ba k bc).ownBlock = some i) wr w6 := KA.out.trans (grown_keep g6)
             have E6 := Lib.hid (show v5.ownBlock = (Value.slice ba k bc).ownBlock ∨ ∃ i, v5.ownBlock = some i ∧ wr.heap.size ≤ i from e6.imp id fun h => ⟨_, h, by first | omega | (rw [World.size_alloc]; omega)⟩)
             have O6 := Lib.hid o6
             have K6 := Lib.hid k6
             have z6 := k6.size
             clear o6 g6 e6 k6 NB OO KA
             have bA : Below w6.heap.size w6 (w6.alloc (Obj.cells #[.pointer (some ⟨qd, 0, none⟩)] 61)) := (Below.refl _ _).alloc (Nat.le_refl _) _
             have KA := Lib.hid (show Keep (fun i => (Value.slice da k dc).ownBlock = some i) w6 (w6.alloc (Obj.cells #[.pointer (some ⟨qd, 0, none⟩)] 61)) from Below.keeps bA)
             have OO := Lib.hid (ownsRow_keep (ownsRow_keep DM.out K6.out (fun i hi h => (HP.out.ub i h).2.2.1 hi)) (Below.keeps (M := fun _ => False) bA) (fun _ _ => id))
             have NB := Lib.hid (show Blk (w6.alloc (Obj.cells #[.pointer (some ⟨qd, 0, none⟩)] 61)) w6.heap.size [.pointer (some ⟨qd, 0, none⟩)] from Blk.made w6 _ _)
             clear bA
             go_wp2_with (refine list_app1 rfl (.tmp 128) (.tmp 130) 59 61 rfl Tryz.underlying59 hq hx0 hx1 hx2 rfl (by decide) (.slice da k dc) k (As.map fun a => ptr a.qd) rfl OO.out w6.heap.size [.pointer (some ⟨qd, 0, none⟩)] rfl NB.out rfl (by simp [Value.oneCell']) (by omega) (by unfold maxLen; omega) ?_)
             intro v7 w7 o7 g7 e7
             have k7 : Keep (fun i => (Value.slice da k dc).ownBlock = some i) w6 w7 := KA.out.trans (grown_keep g7)
             have E7 := Lib.hid (show v7.ownBlock = (Value.slice da k dc).ownBlock ∨ ∃ i, v7.ownBlock = some i ∧ w6.heap.size ≤ i from e7.imp id fun h => ⟨_, h, by first | omega | (rw [World.size_alloc]; omega)⟩)
             have O7 := Lib.hid o7
             have K7 := Lib.hid k7
             have z7 := k7.size
             clear o7 g7 e7 k7 NB OO KA
             have bA : Below w7.heap.size w7 (w7.alloc (Obj.cells #[.pointer (some ⟨qx, 0, none⟩)] 43)) := (Below.refl _ _).alloc (Nat.le_refl _) _
             have KA := Lib.hid (show Keep (fun i => (Value.slice xa k xc).ownBlock = some i) w7 (w7.alloc (Obj.cells #[.pointer (some ⟨qx, 0, none⟩)] 43)) from Below.keeps bA)
             have OO := Lib.hid (ownsRow_keep (ownsRow_keep (ownsRow_keep XM.out K6.out (fun i hi h => (HP.out.ub i h).2.2.2 hi)) K7.out (fun i hi h => (HP.out.ud i h).2.2 hi)) (Below.keeps (M := fun _ => False) bA) (fun _ _ => id))
             have NB := Lib.hid (show Blk (w7.alloc (Obj.cells #[.pointer (some ⟨qx, 0, none⟩)] 43)) w7.heap.size [.pointer (some ⟨qx, 0, none⟩)] from Blk.made w7 _ _)
             clear bA
             go_wp2_with (refine list_app1 rfl (.tmp 132) (.tmp 134) 60 43 rfl Tryz.underlying60 hv hu0 hu1 hu2 rfl (by decide) (.slice xa k xc) k (As.map fun a => ptr a.qx) rfl OO.out w7.heap.size [.pointer (some ⟨qx, 0, none⟩)] rfl NB.out rfl (by simp [Value.oneCell']) (by omega) (by unfold maxLen; omega) ?_)
             intro v8 w8 o8 g8 e8
             have k8 : Keep (fun i => (Value.slice xa k xc).ownBlock = some i) w7 w8 := KA.out.trans (grown_keep g8)
             have E8 := Lib.hid (show v8.ownBlock = (Value.slice xa k xc).ownBlock ∨ ∃ i, v8.ownBlock = some i ∧ w7.heap.size ≤ i from e8.imp id fun h => ⟨_, h, by first | omega | (rw [World.size_alloc]; omega)⟩)
             have O8 := Lib.hid o8
             have K8 := Lib.hid k8
             have z8 := k8.size
             clear o8 g8 e8 k8 NB OO KA
             have HPN := Lib.hid (HP.out.next BL.out (a := ⟨p, c, qd, qx⟩) HIN.out K6.out O6.out E6.out K7.out O7.out E7.out K8.out O8.out E8.out)
             have hlo := HP.out.lw
             have HBN := Lib.hid ((((HBW.out.trans (BL.out.mono hlo)).trans (K6.out.below (by omega) (fun i hi h => by have := (HP.out.ub i h).1; omega))).trans (K7.out.below (by omega) (fun i hi h => by have := (HP.out.ud i h).1; omega))).trans (K8.out.below (by omega) (fun i hi h => by have := (HP.out.ux i h).1; omega)))
             clear hlo
             go_wp2
             exact ⟨⟨k + 1, As ++ [⟨p, c, qd, qx⟩], _, by omega, by go_num, HPN.out, HBN.out⟩, by simp [intOf]; omega⟩
     ·obtain rfl : k = 3 := by omega
      clear hk3 hk
      obtain ⟨⟨p0, c0, qd0, qx0⟩, ⟨p1, c1, qd1, qx1⟩, ⟨p2, c2, qd2, qx2⟩, rfl⟩ : ∃ a b c, As = [a, b, c] := by
       have := HP.out.len
       match As, this with
       | [a, b, c], _ => exact ⟨a, b, c, rfl⟩
      obtain ⟨gb, cb', e1, hgb⟩ := ap_slice1 (n := 2) HP.out.b
      injection e1 with e1 _ e3
      subst e1 e3
      obtain ⟨gd, cd', e1, hgd⟩ := ap_slice1 (n := 2) HP.out.d
      injection e1 with e1 _ e3
      subst e1 e3
      obtain ⟨gx, cx', e1, hgx⟩ := ap_slice1 (n := 2) HP.out.x
      injection e1 with e1 _ e3
      subst e1 e3
      obtain ⟨⟨cn0, hb0⟩, _, hd0, hx0⟩ := HP.out.at_ 0 _ rfl
      obtain ⟨⟨cn1, hb1⟩, _, hd1, _⟩ := HP.out.at_ 1 _ rfl
      obtain ⟨⟨cn2, hb2⟩, _, _, hx2⟩ := HP.out.at_ 2 _ rfl
      obtain ⟨hF, hD, hC, hE⟩ := ap_starts (f := LsV.l) (Lb := Lb) (l := l) (fun y hy x hx => ((HL.out y hy).b x hx).2) (fun x hx => (HLO.out x hx).2)
      rw [← HFL.out] at hF
      rw [← HD0.out] at hD
      rw [← HC0.out] at hC
      rw [← HE0.out] at hE
      obtain ⟨heq, hlen⟩ := ap_eq HT.out hF hD hC hE
      obtain ⟨Fd0, dd0, ed0, ha0, hi0, _⟩ := hd0 rfl
      obtain ⟨Fd1, dd1, ed1, ha1, hi1, _⟩ := hd1 rfl
      obtain ⟨Fx0, xx0, ex0, ha2, hi2, _⟩ := hx0 rfl
      obtain ⟨Fx2, xx2, ex2, ha3, hi3, _⟩ := hx2 rfl
      obtain rfl := heq.dra_same ha0 ha1
      obtain rfl := heq.rel_same ha2 ha3
      obtain ⟨cur, td⟩ := dd0
      obtain ⟨xcur, xt⟩ := xx0
      obtain ⟨bx0, hP0⟩ : ∃ bx, (draK bx).P wi qd0 Fd0 cur td := (show draFam.inv wi Fd0 qd0 ((cur, td) : Option GetM × DraT) from hi0).1
      obtain ⟨bx1, hP1⟩ : ∃ bx, (draK bx).P wi qd1 Fd1 cur td := (show draFam.inv wi Fd1 qd1 ((cur, td) : Option GetM × DraT) from hi1).1
      obtain ⟨_, _, _, _, _, _, _, _, hR0⟩ := (show RelF wi Fx0 qx0 ((xcur, xt) : Option HeaM × RelT) from hi2)
      obtain ⟨_, _, _, _, _, _, _, _, hR2⟩ := (show RelF wi Fx2 qx2 ((xcur, xt) : Option HeaM × RelT) from hi3)
      have l0 := hlen 0
      have l1 := hlen 1
      have l2 := hlen 2
      have C1 := Lib.hid (heq.ring.cut (a := 8) (n := 288) (by decide) (by decide) (by rw [l0]; decide))
      have C2 := Lib.hid (heq.sent.cut (a := 304) (n := 288) (by decide) (by decide) (by rw [l0]; decide))
      obtain ⟨t0, ht0⟩ : ∃ t0, t0 = (T 0).bs := ⟨_, rfl⟩
      obtain ⟨t1, ht1⟩ : ∃ t1, t1 = (T 1).bs := ⟨_, rfl⟩
      obtain ⟨t2, ht2⟩ : ∃ t2, t2 = (T 2).bs := ⟨_, rfl⟩
      rw [← ht0] at C1 C2 hb0 l0
      rw [← ht1] at C1 hb1 l1
      rw [← ht2] at C2 hb2 l2
      have BF0 := Lib.hid hb0
      have BF1 := Lib.hid hb1
      have BF2 := Lib.hid hb2
      have PD0 := Lib.hid hP0
      have PD1 := Lib.hid hP1
      have RB0 := Lib.hid hR0
      have RB2 := Lib.hid hR2
      have L0' := Lib.hid l0
      have L1' := Lib.hid l1
      have L2' := Lib.hid l2
      have vb0 : wi.cell? ⟨gb, 0, none⟩ = some (.pointer (some ⟨p0, 0, none⟩)) := hgb 0 (show 0 < 3 by decide)
      have vb1 : wi.cell? ⟨gb, 1, none⟩ = some (.pointer (some ⟨p1, 0, none⟩)) := hgb 1 (show 1 < 3 by decide)
      have vb2 : wi.cell? ⟨gb, 2, none⟩ = some (.pointer (some ⟨p2, 0, none⟩)) := hgb 2 (show 2 < 3 by decide)
      have vd0 : wi.cell? ⟨gd, 0, none⟩ = some (.pointer (some ⟨qd0, 0, none⟩)) := hgd 0 (show 0 < 3 by decide)
      have vd1 : wi.cell? ⟨gd, 1, none⟩ = some (.pointer (some ⟨qd1, 0, none⟩)) := hgd 1 (show 1 < 3 by decide)
      have vx0 : wi.cell? ⟨gx, 0, none⟩ = some (.pointer (some ⟨qx0, 0, none⟩)) := hgx 0 (show 0 < 3 by decide)
      have vx2 : wi.cell? ⟨gx, 2, none⟩ = some (.pointer (some ⟨qx2, 0, none⟩)) := hgx 2 (show 2 < 3 by decide)
      have lgb := World.block_lt_of_cell? _ _ vb0
      have lgd := World.block_lt_of_cell? _ _ vd0
      have lgx := World.block_lt_of_cell? _ _ vx0
      have VD0 := Lib.hid vd0
      have VD1 := Lib.hid vd1
      have VX0 := Lib.hid vx0
      have VX2 := Lib.hid vx2
      clear hb0 hb1 hb2 hd0 hd1 hx0 hx2 hP0 hP1 hR0 hR2 heq hlen ha0 ha1 ha2 ha3 hi0 hi1 hi2 hi3 hF hD hC hE HP HT HFL HD0 HC0 HE0 HJS ht0 ht1 ht2 hgb hgd hgx l0 l1 l2 vd0 vd1 vx0 vx2 HR HL HS HLO RP BP HFT HFW HBW B0 X0 Y0
      go_wp2_with fail
      refine wp_region_held_drew (S := (fun w' => w'.cell? ⟨gb, 0, none⟩ = some (.pointer (some ⟨p0, 0, none⟩)) ∧ w'.cell? ⟨gb, 1, none⟩ = some (.pointer (some ⟨p1, 0, none⟩)) ∧ w'.cell? ⟨gb, 2, none⟩ = some (.pointer (some ⟨p2, 0, none⟩)))) (by kernel_rfl) ?_ (fun hHeld => ?_)
      ·try dsimp only
       exact ⟨vb0, vb1, vb2⟩
      refine wpT 0 rfl ?_
      try simp only [Act.put, tS]
      refine wpT 1 rfl ?_
      try simp only [Act.put, tS]
      refine wpT 2 rfl ?_
      try simp only [Act.put, tS]
      refine wpT 4 rfl ?_
      try simp only [Act.put, tS]
      refine wpT 5 rfl ?_
      try simp only [Act.put, tS]
      refine wpT 6 rfl ?_
      try simp only [Act.put, tS]
      refine wpT 8 rfl ?_
      try simp only [Act.put, tS]
      refine wpT 9 rfl ?_
      try simp only [Act.put, tS]
      refine wpT 10 rfl ?_
      try simp only [Act.put, tS]
      refine wpR 3 rfl fun K hK => ?_
      go_simp
      go_at_call 18
      refine (mBytes_any p0 c0 _ t0 _ (BF0.out.belows (bel_drewN 1 (Below.refl _ wi)))).mono ?_
      rintro e w6 ⟨v6, rfl, o6, b6⟩
      have B6 := Lib.hid (show Below wi.heap.size wi w6 from (bel_drewN 1 (Below.refl _ wi)).trans b6)
      obtain ⟨g6, m6, rfl, lm6, hm6, lg6, hr6⟩ := ap_bytes o6 L0'.out
      have HR6 := Lib.hid hr6
      clear hr6 o6 b6
      go_wp2_with fail
      refine hK.out _ _ ?_ (fun hHeld => ?_)
      ·try dsimp only
       exact ⟨(B6.out.cell (p := ⟨gb, 0, none⟩) lgb).trans vb0, (B6.out.cell (p := ⟨gb, 1, none⟩) lgb).trans vb1, (B6.out.cell (p := ⟨gb, 2, none⟩) lgb).trans vb2⟩
      clear hK K
      try simp only [Act.put, tS]
      refine wpR 7 rfl fun K hK => ?_
      go_simp
      go_at_call 18
      refine (mBytes_any p1 c1 _ t1 _ (BF1.out.belows B6.out)).mono ?_
      rintro e w7 ⟨v7, rfl, o7, b7⟩
      have B67 := Lib.hid b7
      have B7 := Lib.hid (B6.out.trans (b7.mono B6.out.size))
      obtain ⟨g7, m7, rfl, lm7, hm7, lg7, hr7⟩ := ap_bytes o7 L1'.out
      have HR7 := Lib.hid hr7
      clear hr7 o7 b7
      go_wp2_with fail
      refine hK.out _ _ ?_ (fun hHeld => ?_)
      ·try dsimp only
       exact ⟨(B7.out.cell (p := ⟨gb, 0, none⟩) lgb).trans vb0, (B7.out.cell (p := ⟨gb, 1, none⟩) lgb).trans vb1, (B7.out.cell (p := ⟨gb, 2, none⟩) lgb).trans vb2⟩
      clear hK K
      try simp only [Act.put, tS]
      refine wpR 11 rfl fun K hK => ?_
      go_simp
      go_at_call 18
      refine (mBytes_any p2 c2 _ t2 _ (BF2.out.belows B7.out)).mono ?_
      rintro e w8 ⟨v8, rfl, o8, b8⟩
      have B78 := Lib.hid b8
      have B8 := Lib.hid (B7.out.trans (b8.mono B7.out.size))
      obtain ⟨g8, m8, rfl, lm8, hm8, lg8, hr8⟩ := ap_bytes o8 L2'.out
      have HR8 := Lib.hid hr8
      clear hr8 o8 b8
      go_wp2_with fail
      refine hK.out _ _ ?_ (fun hHeld => ?_)
      ·try dsimp only
       exact ⟨(B8.out.cell (p := ⟨gb, 0, none⟩) lgb).trans vb0, (B8.out.cell (p := ⟨gb, 1, none⟩) lgb).trans vb1, (B8.out.cell (p := ⟨gb, 2, none⟩) lgb).trans vb2⟩
      clear hK K
      try simp only [Act.put, tS]
      refine wpT 12 rfl ?_
      try simp only [Act.put, tS]
      refine wpT 13 rfl ?_
      try simp only [Act.put, tS]
      refine wpT 14 rfl ?_
      try simp only [Act.put, tS]
      refine wpAnyH_done (by kernel_rfl) ?_ _
      clear hHeld
      obtain ⟨st1, hst1⟩ : ∃ st, st = strOfNums (bts t0 8 288) := ⟨_, rfl⟩
      obtain ⟨st2, hst2⟩ : ∃ st, st = strOfNums (bts t0 304 288) := ⟨_, rfl⟩
      have RA := Lib.hid (((HR6.out 8 288 (by decide)).below B67.out).below B78.out)
      have RC := Lib.hid (((HR6.out 304 288 (by decide)).below B67.out).below B78.out)
      have RD := Lib.hid ((HR7.out 8 288 (by decide)).below B78.out)
      have RE := Lib.hid (HR8.out 304 288 (by decide))
      rw [← C1.out] at RD
      rw [← C2.out] at RE
      have HS1 := Lib.hid hst1
      have HS2 := Lib.hid hst2
      clear hst1 hst2 HR6 HR7 HR8 C1 C2 vb0 vb1 vb2
      have cvA : ∀ w', Below w8.heap.size w8 w' → (convert 32 9 (.slice (some ⟨g6, 8, none⟩) 288 (m6 - 8))).run Tryz.prog w' = .ok (.string st1) w' := fun w' b => by rw [HS1.out]; exact conv_rd 32 9 Tryz.underlying32 Tryz.underlying9 (RA.out.below b)
      have cvC : ∀ w', Below w8.heap.size w8 w' → (convert 32 9 (.slice (some ⟨g6, 304, none⟩) 288 (m6 - 304))).run Tryz.prog w' = .ok (.string st2) w' := fun w' b => by rw [HS2.out]; exact conv_rd 32 9 Tryz.underlying32 Tryz.underlying9 (RC.out.below b)
      have cvD : ∀ w', Below w8.heap.size w8 w' → (convert 32 9 (.slice (some ⟨g7, 8, none⟩) 288 (m7 - 8))).run Tryz.prog w' = .ok (.string st1) w' := fun w' b => by rw [HS1.out]; exact conv_rd 32 9 Tryz.underlying32 Tryz.underlying9 (RD.out.below b)
      have cvE : ∀ w', Below w8.heap.size w8 w' → (convert 32 9 (.slice (some ⟨g8, 304, none⟩) 288 (m8 - 304))).run Tryz.prog w' = .ok (.string st2) w' := fun w' b => by rw [HS2.out]; exact conv_rd 32 9 Tryz.underlying32 Tryz.underlying9 (RE.out.below b)
      have cx : ∀ w', Below w8.heap.size w8 w' → w'.cell? ⟨gx, 0, none⟩ = some (.pointer (some ⟨qx0, 0, none⟩)) ∧ w'.cell? ⟨gx, 2, none⟩ = some (.pointer (some ⟨qx2, 0, none⟩)) := fun w' b => ⟨((B8.out.trans (b.mono B8.out.size)).cell (p := ⟨gx, 0, none⟩) lgx).trans VX0.out, ((B8.out.trans (b.mono B8.out.size)).cell (p := ⟨gx, 2, none⟩) lgx).trans VX2.out⟩
      have CVA := Lib.hid cvA
      have CVC := Lib.hid cvC
      have CVD := Lib.hid cvD
      have CVE := Lib.hid cvE
      have CX := Lib.hid cx
      clear cvA cvC cvD cvE cx
      have a61 : (296 : Int) ≤ (m6 : Int) := by omega
      have a62 : (592 : Int) ≤ (m6 : Int) := by omega
      have a63 : ¬ m6 = 8 := by omega
      have a64 : ¬ m6 = 304 := by omega
      have a71 : (296 : Int) ≤ (m7 : Int) := by omega
      have a73 : ¬ m7 = 8 := by omega
      have a81 : (592 : Int) ≤ (m8 : Int) := by omega
      have a84 : ¬ m8 = 304 := by omega
      go_wp2_with fail
      refine wp_region_held_drew (S := (fun w' => (convert 32 9 (.slice (some ⟨g6, 8, none⟩) 288 (m6 - 8))).run Tryz.prog w' = .ok (.string st1) w' ∧ (convert 32 9 (.slice (some ⟨g6, 304, none⟩) 288 (m6 - 304))).run Tryz.prog w' = .ok (.string st2) w' ∧ (convert 32 9 (.slice (some ⟨g7, 8, none⟩) 288 (m7 - 8))).run Tryz.prog w' = .ok (.string st1) w' ∧ (convert 32 9 (.slice (some ⟨g8, 304, none⟩) 288 (m8 - 304))).run Tryz.prog w' = .ok (.string st2) w' ∧ w'.cell? ⟨gx, 0, none⟩ = some (.pointer (some ⟨qx0, 0, none⟩)) ∧ w'.cell? ⟨gx, 2, none⟩ = some (.pointer (some ⟨qx2, 0, none⟩)))) (by kernel_rfl) ?_ (fun hHeld => ?_)
      ·try dsimp only
       exact ⟨CVA.out _ (bel_drewN 1 (Below.refl _ w8)), CVC.out _ (bel_drewN 1 (Below.refl _ w8)), CVD.out _ (bel_drewN 1 (Below.refl _ w8)), CVE.out _ (bel_drewN 1 (Below.refl _ w8)), CX.out _ (bel_drewN 1 (Below.refl _ w8))⟩
      refine wpT 0 rfl ?_
      try simp only [Act.put, tS]
      refine wpT 1 rfl ?_
      try simp only [Act.put, tS]
      refine wpT 2 rfl ?_
      try simp only [Act.put, tS]
      refine wpT 3 rfl ?_
      try simp only [Act.put, tS]
      refine wpT 4 rfl ?_
      try simp only [Act.put, tS]
      refine wpT 5 rfl ?_
      try simp only [Act.put, tS]
      refine wpT 6 rfl ?_
      try simp only [Act.put, tS]
      refine wpT 7 rfl ?_
      try simp only [Act.put, tS]
      refine wpT 8 rfl ?_
      try simp only [Act.put, tS]
      refine wpT 9 rfl ?_
      try simp only [Act.put, tS]
      refine wpT 10 rfl ?_
      try simp only [Act.put, tS]
      refine wpT 11 rfl ?_
      try simp only [Act.put, tS]
      refine wpT 12 rfl ?_
      try simp only [Act.put, tS]
      refine wpT 13 rfl ?_
      try simp only [Act.put, tS]
      refine wpT 14 rfl ?_
      try simp only [Act.put, tS]
      refine wpT 15 rfl ?_
      try simp only [Act.put, tS]
      refine wpT 16 rfl ?_
      try simp only [Act.put, tS]
      refine wpT 17 rfl ?_
      try simp only [Act.put, tS]
      refine wpT 18 rfl ?_
      try simp only [Act.put, tS]
      refine wpT 19 rfl ?_
      try simp only [Act.put, tS]
      refine wpT 22 rfl ?_
      try simp only [Act.put, tS]
      refine wpT 23 rfl ?_
      try simp only [Act.put, tS]
      refine wpT 24 rfl ?_
      try simp only [Act.put, tS]
      refine wpR 20 rfl fun K hK => ?_
      go_simp
      go_at_call 15
      refine (relHeard_at _ (RB0.out.below (B8.out.trans ((bel_drewN 1 (Below.refl _ w8)).mono B8.out.size)))).mono ?_
      rintro e w9 ⟨v9, rfl, h9, b9⟩
      obtain ⟨a9, c9, rfl⟩ := h9.slN
      have B9 := Lib.hid (show Below w8.heap.size w8 w9 from (bel_drewN 1 (Below.refl _ w8)).trans b9)
      clear h9 b9
      go_wp2_with fail
      refine hK.out _ _ ?_ (fun hHeld => ?_)
      ·try dsimp only
       exact ⟨CVA.out _ B9.out, CVC.out _ B9.out, CVD.out _ B9.out, CVE.out _ B9.out, CX.out _ B9.out⟩
      clear hK K
      try simp only [Act.put, tS]
      refine wpT 21 rfl ?_
      try simp only [Act.put, tS]
      refine wpR 25 rfl fun K hK => ?_
      go_simp
      go_at_call 15
      refine (relHeard_at _ (RB2.out.below (B8.out.trans (B9.out.mono B8.out.size)))).mono ?_
      rintro e w10 ⟨v10, rfl, h10, b10⟩
      obtain ⟨a10, c10, rfl⟩ := h10.slN
      have B10 := Lib.hid (show Below w8.heap.size w8 w10 from B9.out.trans (b10.mono B9.out.size))
      clear h10 b10
      go_wp2_with fail
      refine hK.out _ _ ?_ (fun hHeld => ?_)
      ·try dsimp only
       exact ⟨CVA.out _ B10.out, CVC.out _ B10.out, CVD.out _ B10.out, CVE.out _ B10.out, CX.out _ B10.out⟩
      clear hK K
      try simp only [Act.put, tS]
      refine wpT 26 rfl ?_
      try simp only [Act.put, tS]
      refine wpT 27 rfl ?_
      try simp only [Act.put, tS]
      refine wpT 28 rfl ?_
      try simp only [Act.put, tS]
      refine wpAnyH_done (by kernel_rfl) ?_ _
      clear hHeld
      have BB10 := Lib.hid (show Below wi.heap.size wi w10 from B8.out.trans (B10.out.mono B8.out.size))
      obtain ⟨OUT, hOUT⟩ : ∃ O, O = td.out ++ draRest cur := ⟨_, rfl⟩
      have HOUT := Lib.hid hOUT
      clear hOUT CVA CVC CVD CVE CX RA RC RD RE HS1 HS2 B9 B10 RB0 RB2 a61 a62 a63 a64 a71 a73 a81 a84
      go_wp2_with fail
      refine wp_region_held_drew (S := (fun w' => w'.cell? ⟨gd, 0, none⟩ = some (.pointer (some ⟨qd0, 0, none⟩)) ∧ w'.cell? ⟨gd, 1, none⟩ = some (.pointer (some ⟨qd1, 0, none⟩)))) (by kernel_rfl) ?_ (fun hHeld => ?_)
      ·try dsimp only
       exact ⟨((bel_drewN 1 BB10.out).cell (p := ⟨gd, 0, none⟩) lgd).trans VD0.out, ((bel_drewN 1 BB10.out).cell (p := ⟨gd, 1, none⟩) lgd).trans VD1.out⟩
      refine wpT 0 rfl ?_
      try simp only [Act.put, tS]
      refine wpT 1 rfl ?_
      try simp only [Act.put, tS]
      refine wpT 2 rfl ?_
      try simp only [Act.put, tS]
      refine wpT 4 rfl ?_
      try simp only [Act.put, tS]
      refine wpT 5 rfl ?_
      try simp only [Act.put, tS]
      refine wpT 6 rfl ?_
      try simp only [Act.put, tS]
      refine wpR 3 rfl fun K hK => ?_
      go_simp
      go_at_call 24
      refine (draMsgs_any ((draK bx0).below PD0.out (bel_drewN 1 BB10.out))).mono ?_
      rintro e w11 ⟨v11, rfl, ms11, b11⟩
      rw [← HOUT.out] at ms11
      obtain ⟨a11, c11, rfl⟩ := ms11.sl
      have B11 := Lib.hid (show Below wi.heap.size wi w11 from (bel_drewN 1 BB10.out).trans (b11.mono BB10.out.size))
      have MS11 := Lib.hid ms11
      clear ms11 b11
      go_wp2_with fail
      refine hK.out _ _ ?_ (fun hHeld => ?_)
      ·try dsimp only
       exact ⟨((B11.out).cell (p := ⟨gd, 0, none⟩) lgd).trans VD0.out, ((B11.out).cell (p := ⟨gd, 1, none⟩) lgd).trans VD1.out⟩
      clear hK K
      try simp only [Act.put, tS]
      refine wpR 7 rfl fun K hK => ?_
      go_simp
      go_at_call 24
      refine (draMsgs_any ((draK bx1).below PD1.out B11.out)).mono ?_
      rintro e w12 ⟨v12, rfl, ms12, b12⟩
      rw [← HOUT.out] at ms12
      obtain ⟨a12, c12, rfl⟩ := ms12.sl
      have B12 := Lib.hid (show Below wi.heap.size wi w12 from B11.out.trans (b12.mono B11.out.size))
      have MS12 := Lib.hid ms12
      have MS11b := Lib.hid (MS11.out.keep (Below.keeps (M := fun _ => False) b12) (fun _ _ => id) (fun _ _ => id))
      clear ms12 b12 MS11
      go_wp2_with fail
      refine hK.out _ _ ?_ (fun hHeld => ?_)
      ·try dsimp only
       exact ⟨((B12.out).cell (p := ⟨gd, 0, none⟩) lgd).trans VD0.out, ((B12.out).cell (p := ⟨gd, 1, none⟩) lgd).trans VD1.out⟩
      clear hK K
      try simp only [Act.put, tS]
      refine wpT 8 rfl ?_
      try simp only [Act.put, tS]
      refine wpT 9 rfl ?_
      try simp only [Act.put, tS]
      refine wpAnyH_done (by kernel_rfl) ?_ _
      clear hHeld PD0 PD1 VD0 VD1 VX0 VX2 HOUT
      have hol := MS12.out.leN
      unfold maxLen at hol
      go_wp2_with fail
      go_loopw [193] (fun i wl => ∃ n : Nat, n ≤ OUT.length ∧ i = .int .i64 n ∧ Below w12.heap.size w12 wl) (fun i _ => OUT.length - (intOf i).toNat)
      case atStart => exact ⟨0, by omega, rfl, Below.refl _ _⟩
      case round =>
       obtain ⟨n, hn, rfl, hB⟩ := hrel
       have HBB := Lib.hid hB
       by_cases hlt : n < OUT.length
       ·as_aux_lemma =>
        obtain ⟨⟨ty, dt⟩, hx⟩ : ∃ y, OUT[n]? = some y := ⟨_, List.getElem?_eq_getElem hlt⟩
        obtain ⟨g1, cc1, s1, n1, d1, e1, p1, p2, r1⟩ := (MS11b.out.keep (M := fun _ => False) (Below.keeps hB) (fun _ _ => id) (fun _ _ => id)).ms_cell2 hx
        obtain ⟨g2, cc2, s2, n2, d2, e2, q1, q2, r2⟩ := (MS12.out.keep (M := fun _ => False) (Below.keeps hB) (fun _ _ => id) (fun _ _ => id)).ms_cell2 hx
        have e1a : a11 = some ⟨g1, 0, none⟩ := by injection e1
        have e2a : a12 = some ⟨g2, 0, none⟩ := by injection e2
        subst e1a e2a
        have cv := fun n => conv_rd (w := wr.drewN n) 32 9 Tryz.underlying32 Tryz.underlying9 (RdB.drewN n r1)
        have cv2 := fun n => conv_rd (w := wr.drewN n) 32 9 Tryz.underlying32 Tryz.underlying9 (RdB.drewN n r2)
        have lg1 := World.block_lt_of_cell? _ _ p1
        have lg2 := World.block_lt_of_cell? _ _ q1
        have hki : (n : Int) < (OUT.length : Int) := by omega
        have hk0 : (0 : Int) ≤ (n : Int) := by omega
        clear hB hx e1 e2 r1 r2
        go_wp2_with fail
        go_quiet (fail)
        go_wp2
        exact ⟨⟨n + 1, by omega, by go_num, bel_drewN _ HBB.out⟩, by simp [intOf]; omega⟩
       ·obtain rfl : n = OUT.length := by omega
        have hni : ¬ (OUT.length : Int) < (OUT.length : Int) := by omega
        clear hB hlt hn
        go_wp2
        go_ret
        exact ⟨rfl, BW.out.trans ((B12.out.trans (HBB.out.mono B12.out.size)).mono BW.out.size)⟩
set_option maxHeartbeats 1000000 in
theorem apart_early (t0 : Option Addr) (tn tc : Nat) (lv pv : Value) (w : World) (h : 3 < tn) :
  Calls Tryz.prog 4 #[.slice t0 tn tc, lv, pv] w fun e w' => e = .returned (.bool true) ∧ Below w.heap.size w w' := by
 have h1 : (3 : Int) < (tn : Int) := by omega
 go_enter Tryz.func4, Tryz.ntmps4
 go_wp2_with fail
 refine (moves_any _).mono ?_
 rintro e w1 ⟨rfl, b1⟩
 go_wp2
 go_ret
 exact ⟨rfl, b1⟩
theorem apart_said (v : Value) (L : List LsV) (lv : Value) (l : List (Int × List Int)) (pv : Value) (pk : List Int) (w : World) (h : RdR w v 1 (L.map LsV.cs)) (hL : ∀ x ∈ L, LsV.Ok w x) (hs : RdMs w (fun i => i < w.heap.size) lv l) (hlo : ∀ x ∈ l, (-2147483648 ≤ x.1 ∧ x.1 ≤ 2147483647) ∧ IsB x.2) (rp : RdB w pv pk) (bp : IsB pk) :
  Calls Tryz.prog 4 #[v, lv, pv] w fun e w' => e = .returned (.bool true) ∧ Below w.heap.size w w' := by
 obtain ⟨sa, sn, sc, rfl⟩ := rp.isSl
 obtain ⟨a0, cap, rfl, _⟩ := hs.sl
 obtain ⟨t0, tc, rfl⟩ : ∃ t0 tc, v = .slice t0 L.length tc := by
  rcases h with ⟨rfl, h2⟩ | ⟨a, cap, rfl, h2, _⟩ | ⟨b, off, cap, rfl, _⟩
  ·have : L.length = 0 := by have := congrArg List.length h2; simpa using this
   exact ⟨none, 0, by rw [this]⟩
  ·have : L.length = 0 := by have := congrArg List.length h2; simpa using this
   exact ⟨some a, cap, by rw [this]⟩
  ·exact ⟨_, _, by rw [List.length_map]⟩
 by_cases h1 : 3 < L.length
 ·exact apart_early t0 L.length tc _ _ w h1
 ·exact apart_main t0 tc L a0 cap l _ sa sn sc pk w h hL (by omega) (fun _ h => h) hs hlo rp bp
end Go.Proofs.YtggjhleomocojaaGreat
