/- The walk of the law RingfixGoes. Conditions: as each says. -/
import Derived.Test.YtknahaaefmlcpaaGreatFv
import Derived.Lib.SlBytesConst
namespace Go.Proofs.YtknahaaefmlcpaaGreat
set_option maxRecDepth 100000
open Go.RowKit
set_option linter.unusedVariables false
set_option linter.unusedSimpArgs false
set_option maxHeartbeats 8000000 in
theorem goes_main (t0 : Option Addr) (tc : Nat) (Lb : List BytV) (sa : Option Addr) (sn sc : Nat) (pk : List Int) (w : World) (hr : RdR w (.slice t0 Lb.length tc) 1 (Lb.map BytV.cs)) (hL : ∀ x ∈ Lb, BytV.Ok w x) (h8 : Lb.length ≤ 8) (rp : RdB w (.slice sa sn sc) pk) (bp : IsB pk) (h200 : sn ≤ 200) :
    Calls Tryz.prog 4 #[.slice t0 Lb.length tc, .slice sa sn sc] w fun e w' => e = .returned (.bool true) ∧ Below w.heap.size w w' := by
  obtain ⟨i0, hi, hz0, hz1, hz2⟩ := info_parts ptinfo
  obtain ⟨j0, hj, hy0, hy1, hy2⟩ := info_parts mcinfoO
  have HR := Lib.hid hr
  have HL := Lib.hid hL
  have RP := Lib.hid rp
  have BP := Lib.hid bp
  have HSN := Lib.hid (rd_len rp)
  have hi8 : ¬ (8 : Int) < (Lb.length : Int) := by omega
  have hi200 : ¬ (200 : Int) < (sn : Int) := by omega
  clear hr hL rp bp
  go_enter Tryz.func4, Tryz.ntmps4
  go_wp2_with fail
  refine (fixed09_any _).mono ?_
  rintro e w1 ⟨rfl, b1⟩
  have z1 := b1.size
  have B1 := Lib.hid b1
  clear b1
  go_upto_region 6 with fail
  obtain ⟨w2, hw2⟩ : ∃ w2, w2 = w1.alloc (.cells #[.int .i64 0, .int .i64 512] 26) := ⟨_, rfl⟩
  have b2 : Below w1.heap.size w1 w2 := by rw [hw2]; go_grown
  have X2 := Lib.hid (show Blk w2 w1.heap.size [.int .i64 0, .int .i64 512] by rw [hw2]; exact Blk.made _ _ _)
  have z2 : w2.heap.size = w1.heap.size + 1 := by rw [hw2]; simp
  have B2 := Lib.hid (B1.out.trans (b2.mono z1))
  rw [← hw2]
  clear hw2 b2 B1
  go_wp2_with fail
  refine (mNew_at 1024 128 _ (by decide) (by decide) (by decide)).mono ?_
  rintro e w3 ⟨p, c, rfl, hb3, hp, hc, b3⟩
  have z3 := b3.size
  have HB3 := Lib.hid hb3
  have X3 := Lib.hid (X2.out.below b3 (by omega))
  have B3 := Lib.hid (B2.out.trans (b3.mono (by omega)))
  have lpc := hb3.hd.lt
  have lcc := Blk.lt hb3.wd
  have lx3 : w1.heap.size < w3.heap.size := by omega
  clear hb3 b3 X2 B2
  go_wp2_with fail
  go_loopw [8, 9, 40] (fun pv mv i wr => ∃ (k : Nat) (κ : Nat → Kd) (ss : List (Nat × PutM)), k ≤ Lb.length ∧ i = .int .i64 k ∧ PutsTo w3 wr 512 pv κ ss (Lb.take k) ∧ wr.ownsRow 0 154 1 mv ss.length (ss.map ifP) ∧ (∀ g, mv.ownBlock = some g → w3.heap.size ≤ g ∧ κ g = .no ∧ pv.ownBlock ≠ some g) ∧ (∀ j, j < k → ∀ x, Lb[j]? = some x → x.b.length ≤ 64)) (fun _ _ i _ => Lb.length - (intOf i).toNat)
  case atStart => exact ⟨0, fun _ => .no, [], by omega, rfl, PutsTo.start w3 w3 512 Lb (Below.refl _ _), World.ownsRow_nil _ _ _ _, (fun g h => by cases h), fun j h => absurd h (Nat.not_lt_zero _)⟩
  case round =>
    obtain ⟨k, κ, ss, hk, rfl, hP, hM, hMo, hsm⟩ := hrel
    have HP := Lib.hid hP
    have HM := Lib.hid hM
    have HMO := Lib.hid hMo
    have HSM := Lib.hid hsm
    have hbl := B3.out.trans (hP.bel.mono (by omega))
    have hss := hP.len
    rw [List.length_take, Nat.min_eq_left hk] at hss
    have HSS := Lib.hid hss
    have HBL := Lib.hid hbl
    have zr := hP.bel.size
    have XR := Lib.hid (X3.out.below hP.bel lx3)
    obtain ⟨ma, ml, mc, rfl⟩ := own_isSl hM
    obtain ⟨oa, ol, oc, rfl⟩ := own_isSl hP.ow
    have hol : ol = ss.length := by
      rcases hP.ow.2 with ⟨e, h0⟩ | ⟨g, cap, cur, e, _⟩
      · cases e
        exact h0.symm
      · cases e
        rfl
    subst hol
    clear hP hM hMo hsm hbl hss
    by_cases hkl : k < Lb.length
    · obtain ⟨x, hx⟩ : ∃ x, Lb[k]? = some x := ⟨_, List.getElem?_eq_getElem hkl⟩
      have HXK := Lib.hid hx
      have hxm := HL.out x (List.mem_of_getElem? hx)
      obtain ⟨bk, off, rfl, hcell, hc1, hc2⟩ := rowB_at HR.out hx
      obtain ⟨⟨xa, xn, xc, hsv⟩, hrd, hib⟩ := hxm
      rw [hsv] at hcell hrd
      have hcr := (HBL.out.cell (p := ⟨bk, off + k, none⟩) (World.block_lt_of_cell? w _ hcell)).trans hcell
      have HXN := Lib.hid (rd_len hrd)
      have RX := Lib.hid (hrd.below HBL.out)
      have HIB := Lib.hid hib
      have y0 := XR.out.cell 0
      have y1 := XR.out.cell 1
      have lx := XR.out.lt
      simp only [List.getElem?_cons_zero, List.getElem?_cons_succ] at y0 y1
      have hki : (k : Int) < (Lb.length : Int) := by omega
      clear hcell hrd hib hsv hx
      by_cases hbig : (64 : Int) < (xn : Int)
      · go_wp2
        go_ret
        exact ⟨rfl, HBL.out⟩
      have W1 : IntKind.i64.wrap (1 + (k : Int)) = 1 + (k : Int) := IntWalk.i64_in _ ⟨by omega, by omega⟩
      have W2 : IntKind.i32.wrap (1 + (k : Int)) = 1 + (k : Int) := IntWalk.i32_in _ ⟨by omega, by omega⟩
      have HBG := Lib.hid hbig
      clear hbig
      have hbig : ¬ (64 : Int) < (xn : Int) := HBG.out
      go_wp2_with fail
      refine (pNew_f 0 512 (1 + (k : Int)) xa xn xc x.b _ RX.out (by have := HXN.out; omega) HIB.out (by decide) (by decide) (by decide) (by decide)).mono ?_
      rintro e w4 ⟨q, rfl, hq, hF, b4⟩
      have ek : (1 + (k : Int)) = ((1 + k : Nat) : Int) := by omega
      rw [ek] at hF
      clear ek
      have HF4 := Lib.hid hF
      have B4 := Lib.hid b4
      have s4 := b4.size
      have b5 : Below w4.heap.size w4 (w4.alloc (Obj.cells #[.pointer (some ⟨q, 0, none⟩)] 38)) := (Below.refl _ _).alloc (Nat.le_refl _) _
      have OO := Lib.hid (((HP.out.below b4).below b5).ow)
      have NB := Lib.hid (show Blk (w4.alloc (Obj.cells #[.pointer (some ⟨q, 0, none⟩)] 38)) w4.heap.size [.pointer (some ⟨q, 0, none⟩)] from Blk.made w4 _ _)
      have B5 := Lib.hid b5
      clear hF b4 b5 y0 y1 hcr
      go_wp2_with (refine list_app1 rfl (.tmp 54) (.tmp 56) 53 38 rfl Tryz.underlying53 hi hz0 hz1 hz2 rfl (by decide) (.slice oa ss.length oc) ss.length (ss.map ptP) rfl OO.out w4.heap.size [.pointer (some ⟨q, 0, none⟩)] rfl NB.out rfl (by simp [Value.oneCell']) (by have := HSS.out; omega) (by have := HSS.out; unfold maxLen; omega) ?_)
      intro v5 w5 o5 g5 e5
      obtain ⟨za, zl, zc, rfl⟩ := own_isSl o5
      have k5 : Keep (fun i => (Value.slice oa ss.length oc).ownBlock = some i) w4 w5 := (Below.keeps B5.out).trans (grown_keep g5)
      have e5' : (Value.slice za zl zc).ownBlock = (Value.slice oa ss.length oc).ownBlock ∨ ∃ i, (Value.slice za zl zc).ownBlock = some i ∧ w4.heap.size ≤ i := e5.imp id fun h => ⟨_, h, by first | omega | (rw [World.size_alloc]; omega)⟩
      obtain ⟨κ', hκ1, hκ2, hP'⟩ := HP.out.next2 HXK.out B4.out HF4.out k5 o5 e5'
      have HP' := Lib.hid hP'
      have K5 := Lib.hid k5
      have HK1 := Lib.hid hκ1
      have HK2 := Lib.hid hκ2
      have E5 := Lib.hid e5'
      have s5 := k5.size
      have PLT := Lib.hid (World.ownsRow.lt HP.out.ow)
      have MLT := Lib.hid (World.ownsRow.lt HM.out)
      have HM5 := Lib.hid (ownsRow_keep (ownsRow_keep HM.out (Below.keeps (M := fun _ => False) B4.out) (fun _ _ => id)) k5 (fun i hi h => (HMO.out i hi).2.2 h))
      clear hP' o5 g5 e5 e5' k5 hκ1 hκ2 NB OO
      have b6 : Below w5.heap.size w5 (w5.alloc (Obj.cells #[.iface 38 (.pointer (some ⟨q, 0, none⟩))] 154)) := (Below.refl _ _).alloc (Nat.le_refl _) _
      have OO := Lib.hid (ownsRow_keep HM5.out (Below.keeps (M := fun _ => False) b6) (fun _ _ => id))
      have NB := Lib.hid (show Blk (w5.alloc (Obj.cells #[.iface 38 (.pointer (some ⟨q, 0, none⟩))] 154)) w5.heap.size [.iface 38 (.pointer (some ⟨q, 0, none⟩))] from Blk.made w5 _ _)
      have B6 := Lib.hid b6
      clear b6
      go_wp2_with (refine list_app1 rfl (.tmp 58) (.tmp 61) 54 154 rfl Tryz.underlying54 hj hy0 hy1 hy2 rfl (by decide) (.slice ma ml mc) ss.length (ss.map ifP) rfl OO.out w5.heap.size [.iface 38 (.pointer (some ⟨q, 0, none⟩))] rfl NB.out rfl (by simp [Value.oneCell']) (by have := HSS.out; omega) (by have := HSS.out; unfold maxLen; omega) ?_)
      intro v7 w7 o7 g7 e7
      obtain ⟨ya, yl, yc, rfl⟩ := own_isSl o7
      have k7 : Keep (fun i => (Value.slice ma ml mc).ownBlock = some i) w5 w7 := (Below.keeps B6.out).trans (grown_keep g7)
      have e7' : (Value.slice ya yl yc).ownBlock = (Value.slice ma ml mc).ownBlock ∨ ∃ i, (Value.slice ya yl yc).ownBlock = some i ∧ w5.heap.size ≤ i := e7.imp id fun h => ⟨_, h, by first | omega | (rw [World.size_alloc]; omega)⟩
      have HO7 := Lib.hid o7
      have HM7 : Hid (∀ i, (Value.slice ma ml mc).ownBlock = some i → (κ' i = .no ∧ w3.heap.size ≤ i) ∧ (Value.slice za zl zc).ownBlock ≠ some i) := Lib.hid (fun i hi => by
        have h1 := HMO.out i hi
        have h2 := (MLT.out i hi).2
        refine ⟨⟨(HK1.out i h2).trans h1.2.1, h1.1⟩, fun h => ?_⟩
        rcases E5.out with e | ⟨i', e, hi'⟩
        · rw [e] at h; exact h1.2.2 h
        · rw [e] at h; cases h; omega)
      have HP7 := Lib.hid (HP'.out.beside k7 (fun i h => (HM7.out i h).1) (fun i h => (HM7.out i h).2))
      have E7 := Lib.hid e7'
      have ZLT := Lib.hid (World.ownsRow.lt HP'.out.ow)
      clear o7 g7 e7 e7' k7
      go_wp2
      refine ⟨⟨k + 1, κ', _, by omega, by go_num, HP7.out, ?_, fun g hg => ?_, fun j hj y hy => ?_⟩, by simp [intOf]; omega⟩
      · rw [List.length_append, List.map_append]
        exact HO7.out
      · rcases E7.out with e | ⟨i, e, hi⟩
        · rw [e] at hg
          have := HM7.out g hg
          exact ⟨this.1.2, this.1.1, this.2⟩
        · rw [e] at hg
          cases hg
          refine ⟨by omega, HK2.out _ (by omega), fun h => ?_⟩
          have := (ZLT.out _ h).2
          omega
      · by_cases hjk : j < k
        · exact HSM.out j hjk y hy
        · obtain rfl : j = k := by omega
          have := HXK.out
          rw [hy] at this
          cases this
          have := HXN.out
          omega
    · obtain rfl : k = Lb.length := by omega
      have hni : ¬ (Lb.length : Int) < (Lb.length : Int) := by omega
      rw [List.take_of_length_le (Nat.le_refl _)] at HP
      obtain ⟨qs, hmd⟩ := HP.out.md
      go_wp2_with fail
      refine (newPuts (p := p) (c := c) (cnt := 0) (bs := List.replicate (8 * 128) 0) hmd HM.out (fun i x hx => by rw [List.getElem?_map, hx]; rfl) (HB3.out.belows hmd.bel) (by omega) (by omega) (by have := HSS.out; omega)).mono ?_
      rintro e wm ⟨W, κm, av, ab, rfl, hW, hκ, hWs, b6⟩
      have HQ := Lib.hid (show ss.map (·.2) = putsI 512 Lb from HP.out.eq)
      have HST := Lib.hid (GoW.start (s := 512) (by omega) hW HQ.out HL.out h8)
      have z6 := b6.size
      have hno : ∀ i, i < w3.heap.size → i ≠ p → i ≠ c → κm i = .no := fun i h1 h2 h3 => (hκ i (by omega)).trans (kdX_no hmd h1 h2 h3)
      have HNO := Lib.hid hno
      have HNW := Lib.hid (show ∀ i, i < w.heap.size → κm i = .no from fun i hi => hno i (by have := B3.out.size; omega) (by omega) (by omega))
      have HX1 := Lib.hid (show κm w1.heap.size = .no from hno _ lx3 (by omega) (by omega))
      have hpo : wm.ownsRow 0 38 1 (.slice oa ss.length oc) ss.length (ss.map ptP) := ownsRow_keep HP.out.ow (Below.keeps (M := fun _ => False) b6) (fun _ _ => id)
      have HPO := Lib.hid hpo
      have HPN := Lib.hid (show ∀ g, (Value.slice oa ss.length oc).ownBlock = some g → κm g = .no ∧ w3.heap.size ≤ g from fun g hg => by
        have h1 := HP.out.om g hg
        have h2 := (World.ownsRow.lt (HP.out.ow) g hg).2
        refine ⟨?_, h1.1⟩
        rw [hκ g (by omega)]
        unfold kdX
        rw [if_neg (by omega)]
        exact h1.2)
      have BM := Lib.hid (HBL.out.trans (b6.mono HBL.out.size))
      have XM := Lib.hid (XR.out.below b6 XR.out.lt)
      have hs8 : ss.length ≤ 8 := by have := HSS.out; omega
      have hzm : wr.heap.size ≤ wm.heap.size := z6
      clear hW hκ hno hpo hmd HM HMO HSM HP XR HB3 HBL z6 b6
      go_wp2_with fail
      go_loopw [69] (fun i wl => ∃ (n : Nat) (κ1 : Nat → Kd) (tv : Value) (A : List (Slot × Nat)) (L : List (Nat × PutM)) (S : SW putMacQ.σ), n ≤ sn ∧ i = .int .i64 n ∧ GoW 512 wm wl κm κ1 W p c av tv ab (keyQ ss) n A L S) (fun i _ => sn - (intOf i).toNat)
      case atStart => exact ⟨0, _, _, _, _, _, by omega, rfl, HST.out⟩
      case round =>
        obtain ⟨n, κ1, tv, A, L, S, hn, rfl, hO⟩ := hrel
        have HO := Lib.hid hO
        have hBL : Below w.heap.size w wr := BM.out.trans (hO.kp.below (B := w.heap.size) BM.out.size (fun i hi h => h (HNW.out i hi)))
        have HBL := Lib.hid hBL
        have HXR := Lib.hid (XM.out.keep hO.kp (fun h => h HX1.out))
        have hz := hO.kp.size
        clear hO hBL
        by_cases hnl : n < sn
        · have hni : (n : Int) < (sn : Int) := by omega
          obtain ⟨bk, off, rfl, hcell, hc1, hc2⟩ := rdB_at RP.out (k := n) (by have := HSN.out; omega)
          have hcr := (HBL.out.cell (p := ⟨bk, off + n, none⟩) (World.block_lt_of_cell? w _ hcell)).trans hcell
          have hxb := BP.out.getD n
          obtain ⟨x, hx⟩ : ∃ x, x = gB pk n := ⟨_, rfl⟩
          rw [← hx] at hcr hxb
          clear hcell
          by_cases h0 : 0 < ss.length
          · have h0' : (0 : Int) < (ss.length : Int) := by omega
            obtain ⟨j, hj⟩ : ∃ j : Nat, x % (ss.length : Int) = j := ⟨(x % (ss.length : Int)).toNat, by have := Int.emod_nonneg x (show (ss.length : Int) ≠ 0 by omega); omega⟩
            have hjs : j < ss.length := by have := Int.emod_lt_of_pos x (show 0 < (ss.length : Int) by omega); omega
            have hjt : x.tmod (ss.length : Int) = (j : Int) := by rw [Int.tmod_eq_emod_of_nonneg hxb.1]; exact hj
            have W2 : IntKind.i64.wrap (j : Int) = (j : Int) := IntWalk.i64_in _ ⟨by omega, by omega⟩
            have hz1' : ¬ ((ss.length : Int) = 0) := by omega
            clear hj hx
            go_wp2_with fail
            refine (wPick_step HO.out.wo j 0 HO.out.c0 (by have := HO.out.c1; omega) (by have := HO.out.tr; omega)).mono ?_
            rintro e w' hp
            obtain ⟨κ2, tv2, A2, L2, hO2⟩ := HO.out.put (j := j) (by simp [keyQ]; omega) hp
            obtain ⟨_, _, _, _, _, _, rfl, _⟩ := hp
            have HO2 := Lib.hid hO2
            clear hO2
            go_wp2
            exact ⟨⟨n + 1, κ2, tv2, A2, L2, _, by omega, by go_num, HO2.out⟩, by simp [intOf]; omega⟩
          · have h0' : ¬ (0 : Int) < (ss.length : Int) := by omega
            go_wp2
            obtain ⟨a1, a2, a3, a4, a5, a6, a7, a8, a9⟩ := HO.out
            exact ⟨⟨n + 1, κ1, tv, A, L, S, by omega, by go_num, a1, a2, a3, a4, a5, a6, a7, by omega, by omega⟩, by simp [intOf]; omega⟩
        · obtain rfl : n = sn := by omega
          have hni : ¬ (n : Int) < (n : Int) := by omega
          clear hnl HST
          have r0 := HXR.out.cell 0
          have r1 := HXR.out.cell 1
          have lxr := HXR.out.lt
          simp only [List.getElem?_cons_zero, List.getElem?_cons_succ] at r0 r1
          have kc := fun (w : World) (C : Array Value) (n c : Nat) => Lib.run_convert_bytes_const (P := Tryz.prog) w 22 5 C n c Tryz.underlying22 Tryz.underlying5
          go_wp2_with fail
          obtain ⟨w5, hw5⟩ : ∃ w5, w5 = wr.alloc (.cells #[.int .u8 108, .int .u8 97, .int .u8 115, .int .u8 116] 5 (4, 5)) := ⟨_, rfl⟩
          have b5 : Below wr.heap.size wr w5 := by rw [hw5]; go_grown
          have hr5 : RdB w5 (.slice (some ⟨wr.heap.size, 0, none⟩) 4 4) [108, 97, 115, 116] := by
            refine .inr (.inr ⟨wr.heap.size, 0, 4, rfl, by decide, by decide, fun i hi => ?_⟩)
            have hi : i < 4 := hi
            rw [hw5, World.cell?, (MapKept.heap_alloc wr _).1, Nat.zero_add]
            match i, hi with
            | 0, _ | 1, _ | 2, _ | 3, _ => rfl
          have z5 := b5.size
          have B5 := Lib.hid b5
          have HR5 := Lib.hid hr5
          rw [← hw5]
          clear hw5 b5 hr5 r0 r1 kc
          refine (pNew_f 0 512 99 _ 4 4 [108, 97, 115, 116] _ HR5.out (by decide) (by intro x hx; simp at hx; omega) (by decide) (by decide) (by decide) (by decide)).mono ?_
          rintro e w6 ⟨q9, rfl, hq9, hF, b6⟩
          have z6 := b6.size
          have B6 := Lib.hid (B5.out.trans (b6.mono z5))
          have HI6 := Lib.hid (show putFam.inv w6 (fun k => w5.heap.size ≤ k ∧ k < w6.heap.size) q9 (q9, PutC.init ⟨0, 512, 99, [108, 97, 115, 116]⟩) from ⟨rfl, hF⟩)
          clear hF b6 B5 HR5
          go_wp2_with fail
          obtain ⟨w7, hw7⟩ : ∃ w7, w7 = w6.alloc (Obj.cells #[.iface 38 (.pointer (some ⟨q9, 0, none⟩))] 154) := ⟨_, rfl⟩
          have b7 : Below w6.heap.size w6 w7 := by rw [hw7]; exact (Below.refl _ _).alloc (Nat.le_refl _) _
          have G7 := Lib.hid (show Blk w7 w6.heap.size [.iface 38 (.pointer (some ⟨q9, 0, none⟩))] by rw [hw7]; exact Blk.made w6 _ _)
          have z7 : w7.heap.size = w6.heap.size + 1 := by rw [hw7]; simp
          have B7 := Lib.hid (B6.out.trans (b7.mono (by omega)))
          have HI7 := Lib.hid (putFam.keep HI6.out (Below.keeps (M := fun _ => False) b7) (fun _ _ => id))
          have HBU := Lib.hid (HO.out.wo.buf)
          have lpw := HBU.out.hd.lt
          have lcw := Blk.lt HBU.out.wd
          rw [← hw7]
          clear hw7 b7 HI6 B6
          -- the plain side: one put more, alone
          have hM := HO.out.inv.more ⟨0, 512, 99, [108, 97, 115, 116]⟩ rfl rfl (by intro x hx; simp at hx; omega) (by decide)
          have hPl : (L.map (·.2)).length = Lb.length := by have h1 := HO.out.len; have h2 := HSS.out; simp [keyQ] at h1 ⊢; omega
          obtain ⟨m, bs9, A9, m9, hrun, hend, hm, hI9, htk9, hbe9, hc9⟩ := put_ends (i := (L.map (·.2)).length) (by omega) 1000 hM (by rw [List.getElem?_append_right (Nat.le_refl _), Nat.sub_self]; rfl) (.inl rfl) (by show 11 + 4 / 8 ≤ 1000; decide)
          rw [List.set_append_right _ _ (Nat.le_refl _), Nat.sub_self] at hI9
          have hI9 : Inv 0 512 bs9 (L.map (·.2) ++ [m9]) A9 0 0 [] := hI9
          have HI9 := Lib.hid hI9
          have HBE := Lib.hid hbe9
          have HC9 := Lib.hid hc9
          have HEN := Lib.hid hend
          have cc0 := HO.out.c0
          have cc1 := HO.out.c1
          refine (soloRun putFam (s := (q9, PutC.init ⟨0, 512, 99, [108, 97, 115, 116]⟩)) (s' := (q9, m9)) (HBU.out.belows B7.out) HI7.out (by omega) (by omega) G7.out 1000 (Runs.q q9 hrun) hend (by omega) (by decide) (by omega) (by omega)).mono ?_
          rintro e w8 ⟨W2, rfl, hR⟩
          clear hM hrun hend hI9 htk9 hbe9 hc9
          go_wp2_with fail
          refine hR.mono ?_
          rintro e w9 ⟨⟨k2, rfl⟩, hb9, ⟨F9, q9', hI9', np9, nc9, hF9⟩, k9⟩
          obtain ⟨rfl, hPF9⟩ := hI9'
          have HB9 := Lib.hid hb9
          have HF9 := Lib.hid (show PutF w9 F9 q9' m9 from hPF9)
          have K9 := Lib.hid (show Keep (fun i => i = p ∨ i = c) wr w9 from ((Below.keeps (M := fun i => i = p ∨ i = c) B7.out).then k9 (fun i hi hh => hh.elim (fun h9 => by omega) id)))
          have NP9 := Lib.hid (show ∀ j, F9 j → j ≠ p ∧ j ≠ c from fun j hj => ⟨fun e => np9 (e ▸ hj), fun e => nc9 (e ▸ hj)⟩)
          have z9 := k9.size
          have zk9 := K9.out.size
          have PI9 := Lib.hid ((PutsIn.of HO.out.wo HO.out.acts).keep K9.out (fun j _ h => h))
          have BW9 := Lib.hid (HBL.out.trans (K9.out.below (B := w.heap.size) HBL.out.size (fun i hi h => by have := B3.out.size; omega)))
          have X9 := Lib.hid (HXR.out.keep K9.out (by omega))
          have PO9 := Lib.hid (ownsRow_keep (ownsRow_keep HPO.out HO.out.kp (fun i hi h => h (HPN.out i hi).1)) K9.out (fun i hi h => by have := (HPN.out i hi).2; omega))
          clear hR hb9 hPF9 k9 np9 nc9 hF9 HI7 G7 B7
          obtain ⟨_, _, O9, bv9, _, hJ9⟩ := HF9.out
          go_wp2_with fail
          refine (pResult_any _ hJ9.at_).mono ?_
          rintro e w10 ⟨rfl, b10⟩
          have B10 := Lib.hid b10
          have z10 := b10.size
          clear hJ9 b10
          by_cases he9 : m9.e = 0
          · have HE9 := Lib.hid he9
            rw [he9]
            clear he9
            have hL9 : Lb.length ≤ 8 := h8
            have W1 : IntKind.i64.wrap (2 * (Lb.length : Int)) = 2 * (Lb.length : Int) := IntWalk.i64_in _ ⟨by omega, by omega⟩
            have W2 : IntKind.i64.wrap (2 * (Lb.length : Int) + 2) = 2 * (Lb.length : Int) + 2 := IntWalk.i64_in _ ⟨by omega, by omega⟩
            have hft9 := HI9.out.fit
            have HLN9 := Lib.hid (show ln A9 ≤ 512 by omega)
            have HMG9 := Lib.hid (show (msgs A9).length < 99 by have := msgs_le A9 HI9.out.ok; omega)
            have HNF9 := Lib.hid (HI9.out.nfin_le (n := Lb.length) (m := m9) (by rw [List.length_append, hPl]; rfl) (by rw [← hPl, List.getElem?_append_right (Nat.le_refl _), Nat.sub_self]; rfl) HEN.out)
            have HFX9 : Hid (Fixing 0 512 A9 False bs9 [] 0) := Lib.hid ⟨A9, 0, 0, HI9.out.dead, rfl, rfl, rfl, HI9.out.last (m := m9) (by rw [List.getElem?_append_right (Nat.le_refl _), Nat.sub_self]; rfl) HEN.out HE9.out HBE.out, rfl, .inr (by omega), nofun⟩
            have HB10 := Lib.hid (HB9.out.belows B10.out)
            have BW10 := Lib.hid (BW9.out.trans (B10.out.mono BW9.out.size))
            have X10 := Lib.hid (X9.out.below B10.out X9.out.lt)
            have lp10 := HB10.out.hd.lt
            have lc10 := Blk.lt HB10.out.wd
            clear hft9
            go_wp2_with fail
            go_loopw [19, 108] (fun gv i wl => ∃ (r : Nat) (cnt : Int) (bs : List Int) (out : List (Int × List Int)) (O R : Nat → Prop), r ≤ 2 * Lb.length + 2 ∧ i = .int .i64 r ∧ Buf wl p c cnt bs ∧ 0 ≤ cnt ∧ cnt ≤ 1201 + r * 400000 ∧ Fixing 0 512 A9 False bs out r ∧ MsIn wl O R gv out ∧ (∀ i, O i ∨ R i → w10.heap.size ≤ i ∧ i < wl.heap.size) ∧ (∀ i, O i → ¬ R i) ∧ Keep (fun i => i = p ∨ i = c) w10 wl) (fun _ i _ => 2 * Lb.length + 2 - (intOf i).toNat)
            case atStart => exact ⟨0, _, bs9, [], fun _ => False, fun _ => False, by omega, rfl, HB10.out, by omega, by omega, HFX9.out, msIn_none _ _ _, fun i h => by rcases h with h | h <;> exact h.elim, fun i h => h.elim, Below.keeps (Below.refl _ _)⟩
            case round =>
              obtain ⟨r, cnt, bs, out, O, R, hr, rfl, hbf, hc0, hc1, hfx, hms, hor, hdj, hkp⟩ := hrel
              obtain ⟨ga, gc, rfl⟩ := hms.sl
              have HBF := Lib.hid hbf
              have HFX := Lib.hid hfx
              have HMS := Lib.hid hms
              have HKP := Lib.hid hkp
              have HDJ := Lib.hid hdj
              have zl := hkp.size
              have HXR := Lib.hid (X10.out.keep hkp (by have := X9.out.lt; omega))
              have HBL := Lib.hid (BW10.out.trans (hkp.below (B := w.heap.size) BW10.out.size (fun i hi h => by have := B3.out.size; omega)))
              clear hbf hfx hms hkp hdj HFX9
              by_cases hrl : r < 2 * Lb.length + 2
              · have hri : (r : Int) < 2 * (Lb.length : Int) + 2 := by omega
                have r0 := HXR.out.cell 0
                have r1 := HXR.out.cell 1
                have lxr := HXR.out.lt
                simp only [List.getElem?_cons_zero, List.getElem?_cons_succ] at r0 r1
                go_wp2_with fail
                refine (get09_any (b := 0) (s := 512) HBF.out HFX.out HLN9.out (by decide) (by decide) (by decide) HMG9.out hc0 (by omega)).mono ?_
                rintro e w11 ⟨mv, bs11, cnt11, outs, O2, R2, rfl, hb11, hk0, hk1, hfx11, hms11, hor11, hdj11, k11⟩
                obtain ⟨mva, mvc, rfl⟩ := hms11.sl
                have HB11 := Lib.hid hb11
                have HFX11 := Lib.hid hfx11
                have HMS11 := Lib.hid hms11
                have K11 := Lib.hid k11
                have z11 := k11.size
                have X11 := Lib.hid (HXR.out.keep k11 (by have := X9.out.lt; omega))
                have HMSk := Lib.hid (HMS.out.keep k11 (fun i hi h => by have := hor i (.inl hi); omega) (fun i hi h => by have := hor i (.inr hi); omega))
                have r0 := X11.out.cell 0
                have r1 := X11.out.cell 1
                have lxr := X11.out.lt
                simp only [List.getElem?_cons_zero, List.getElem?_cons_succ] at r0 r1
                clear hb11 hfx11 hms11 k11
                go_wp2_with fail
                refine (fNew_f 0 512 w11 (by decide) (by decide) (by decide) (by decide)).mono ?_
                rintro e w12 ⟨q3, rfl, hq3, hF, b12⟩
                have z12 := b12.size
                have B12 := Lib.hid b12
                have HI12 := Lib.hid (show fixFam.inv w12 (fun k => w11.heap.size ≤ k ∧ k < w12.heap.size) q3 (q3, FixC.init ⟨0, 512⟩) from ⟨rfl, hF⟩)
                clear hF b12 r0 r1
                go_wp2_with fail
                obtain ⟨w13, hw13⟩ : ∃ w13, w13 = w12.alloc (Obj.cells #[.iface 69 (.pointer (some ⟨q3, 0, none⟩))] 154) := ⟨_, rfl⟩
                have b13 : Below w12.heap.size w12 w13 := by rw [hw13]; exact (Below.refl _ _).alloc (Nat.le_refl _) _
                have G13 := Lib.hid (show Blk w13 w12.heap.size [.iface 69 (.pointer (some ⟨q3, 0, none⟩))] by rw [hw13]; exact Blk.made w12 _ _)
                have z13 : w13.heap.size = w12.heap.size + 1 := by rw [hw13]; simp
                have B13 := Lib.hid (B12.out.trans (b13.mono z12))
                have HI13 := Lib.hid (fixFam.keep HI12.out (Below.keeps (M := fun _ => False) b13) (fun _ _ => id))
                rw [← hw13]
                clear hw13 b13 HI12 B12
                obtain ⟨m3, bs14, m', hrun, hend, hmm, hfx14⟩ := HFX11.out.fix HLN9.out ⟨0, 512⟩ rfl rfl (by decide)
                have HFX14 := Lib.hid hfx14
                refine (soloRun fixFam (s := (q3, FixC.init ⟨0, 512⟩)) (s' := (q3, m')) (HB11.out.belows B13.out) HI13.out (by omega) (by omega) G13.out 100000 (Runs.fq q3 (show Runs fixMac _ _ _ _ _ from hrun)) hend (by omega) (by decide) (by omega) (by omega)).mono ?_
                rintro e w14 ⟨W3, rfl, hR⟩
                clear hrun hend hfx14
                go_wp2_with fail
                refine hR.mono ?_
                rintro e w15 ⟨⟨k3, rfl⟩, hb15, -, k15⟩
                have HB15 := Lib.hid hb15
                have K15 := Lib.hid (show Keep (fun i => i = p ∨ i = c) w11 w15 from (Below.keeps (M := fun i => i = p ∨ i = c) B13.out).then k15 (fun i hi hh => hh.elim (fun h9 => by omega) id))
                have z15 := K15.out.size
                have HM1 := Lib.hid (HMSk.out.keep K15.out (fun i hi h => by have := hor i (.inl hi); omega) (fun i hi h => by have := hor i (.inr hi); omega))
                have HM2 := Lib.hid (HMS11.out.keep K15.out (fun i hi h => by have := hor11 i (.inl hi); omega) (fun i hi h => by have := hor11 i (.inr hi); omega))
                have HN := Lib.hid (show out.length + outs.length ≤ 100000 by
                  have h1 := HFX14.out.few
                  have h2 := HMG9.out
                  rw [List.length_append] at h1
                  omega)
                have HD := Lib.hid (show ∀ i, O i ∨ O2 i → ¬ R i from fun i hi hr => by
                  rcases hi with hi | hi
                  · exact HDJ.out i hi hr
                  · have h1 := (hor i (.inr hr)).2
                    have h2 := (hor11 i (.inl hi)).1
                    omega)
                clear hR hb15 k15 HMSk HMS11
                go_wp2_with (refine list_appMs2 rfl (.tmp 126) (.tmp 127) rfl rfl rfl HM1.out HM2.out HN.out HD.out ?_)
                intro v16 w16 hm16 k16
                obtain ⟨va, vc, rfl⟩ := hm16.sl
                have HM16 := Lib.hid hm16
                have K16 := Lib.hid k16
                have z16 := k16.size
                clear hm16 k16
                go_wp2
                refine ⟨⟨r + 1, _, bs14, out ++ outs, _, _, by omega, by go_num, HB15.out.keep K16.out (fun h => by have := hor _ (.inr h); omega) (fun h => by have := hor _ (.inr h); omega), by omega, by omega, HFX14.out, HM16.out, ?_, ?_, ?_⟩, by simp [intOf]; omega⟩
                · rintro i ((hi | hi) | (hi | hi))
                  · have := hor i (.inl hi)
                    exact ⟨this.1, by omega⟩
                  · have := hor11 i (.inl hi)
                    exact ⟨by omega, by omega⟩
                  · have := hor i (.inr hi)
                    exact ⟨this.1, by omega⟩
                  · exact ⟨by omega, by omega⟩
                · rintro i (hi | hi) (hr | hr)
                  · exact HDJ.out i hi hr
                  · have := hor i (.inl hi)
                    omega
                  · have h1 := (hor i (.inr hr)).2
                    have h2 := (hor11 i (.inl hi)).1
                    omega
                  · have := hor11 i (.inl hi)
                    omega
                · exact ((HKP.out.trans K11.out).trans K15.out).then K16.out (fun i hi hh => by have := hor i (.inr hh); omega)
              · obtain rfl : r = 2 * Lb.length + 2 := by omega
                have hri : ¬ (((2 * Lb.length + 2 : Nat) : Int) < 2 * (Lb.length : Int) + 2) := by omega
                obtain rfl := HFX.out.all (by have := HNF9.out; omega)
                have HCD := Lib.hid (camed HI9.out HE9.out (by rw [HC9.out]; rfl) (by rw [HC9.out]; rfl) (keyQ_puts HQ.out HO.out.key))
                have PIR := Lib.hid ((PI9.out.keep (K := fun _ => False) (Below.keeps B10.out) (fun _ _ h => h.elim)).keep HKP.out (fun j _ h => h))
                have hPs : (L.map (·.2)).length = ss.length := by have h1 := HO.out.len; simp [keyQ] at h1 ⊢; omega
                have POR := Lib.hid (show wr.ownsRow 0 38 1 (.slice oa ss.length oc) (L.map (·.2)).length (ss.map ptP) by
                  rw [hPs]
                  exact ownsRow_keep (ownsRow_keep PO9.out (Below.keeps (M := fun _ => False) B10.out) (fun _ _ => id)) HKP.out (fun i hi h => by have := (HPN.out i hi).2; omega))
                have H9R := Lib.hid (show ∃ F, PutF wr F q9' m9 from ⟨F9, (HF9.out.below B10.out).keep HKP.out (fun j hj h => h.elim (NP9.out j hj).1 (NP9.out j hj).2)⟩)
                clear hrl hPs
                go_wp2_with fail
                refine (came_any (L.map (·.2)) m9 (fun i => ((L[i]?).map (·.1)).getD 0) q9' t0 tc Lb wr (HR.out.below HBL.out) (fun x hx => ⟨(HL.out x hx).s, (HL.out x hx).r.below HBL.out, (HL.out x hx).b⟩) h8 hPl POR.out (fun i hi => rows_of HO.out.key i (by simpa using hi)) (fun i m hm => by
                  rw [List.getElem?_map] at hm
                  obtain ⟨x, hx, rfl⟩ := Option.map_eq_some_iff.1 hm
                  obtain ⟨F, hF, _⟩ := PIR.out.at_ i x hx
                  exact ⟨F, by rw [hx]; exact hF⟩) H9R.out HMS.out HCD.out).mono ?_
                rintro e wz ⟨rfl, bz⟩
                go_wp2
                go_ret
                exact ⟨rfl, HBL.out.trans (bz.mono HBL.out.size)⟩
          · have hne : (m9.e == 0) = false := by simpa using he9
            clear he9
            go_wp2
            go_ret
            exact ⟨rfl, BW9.out.trans (B10.out.mono BW9.out.size)⟩
set_option maxHeartbeats 1000000 in
theorem goes_early (t0 : Option Addr) (tn tc : Nat) (sa : Option Addr) (sn sc : Nat) (w : World) (h : 8 < tn ∨ 200 < sn) :
    Calls Tryz.prog 4 #[.slice t0 tn tc, .slice sa sn sc] w fun e w' => e = .returned (.bool true) ∧ Below w.heap.size w w' := by
  by_cases h1 : (8 : Int) < (tn : Int)
  · go_enter Tryz.func4, Tryz.ntmps4
    go_wp2_with fail
    refine (fixed09_any _).mono ?_
    rintro e w1 ⟨rfl, b1⟩
    go_wp2
    go_ret
    exact ⟨rfl, b1⟩
  · have h2 : (200 : Int) < (sn : Int) := by omega
    clear h
    go_enter Tryz.func4, Tryz.ntmps4
    go_wp2_with fail
    refine (fixed09_any _).mono ?_
    rintro e w1 ⟨rfl, b1⟩
    go_wp2
    go_ret
    exact ⟨rfl, b1⟩
theorem goes_said (v : Value) (L : List BytV) (pv : Value) (pk : List Int) (w : World) (h : RdR w v 1 (L.map BytV.cs)) (hL : ∀ x ∈ L, BytV.Ok w x) (rp : RdB w pv pk) (bp : IsB pk) :
    Calls Tryz.prog 4 #[v, pv] w fun e w' => e = .returned (.bool true) ∧ Below w.heap.size w w' := by
  obtain ⟨sa, sn, sc, rfl⟩ := rp.isSl
  obtain ⟨t0, tc, rfl⟩ : ∃ t0 tc, v = .slice t0 L.length tc := by
    rcases h with ⟨rfl, h2⟩ | ⟨a, cap, rfl, h2, _⟩ | ⟨b, off, cap, rfl, _⟩
    · have : L.length = 0 := by have := congrArg List.length h2; simpa using this
      exact ⟨none, 0, by rw [this]⟩
    · have : L.length = 0 := by have := congrArg List.length h2; simpa using this
      exact ⟨some a, cap, by rw [this]⟩
    · exact ⟨_, _, by rw [List.length_map]⟩
  by_cases h1 : 8 < L.length ∨ 200 < sn
  · exact goes_early t0 L.length tc sa sn sc w h1
  · exact goes_main t0 tc L sa sn sc pk w h hL (by omega) rp bp (by omega)
end Go.Proofs.YtknahaaefmlcpaaGreat
