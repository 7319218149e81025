/- The walk of the law RingMends. Conditions: as each says. -/
import Derived.Test.YtggjhleomocojaaGreatFt
import Derived.Lib.SlBytesConst
namespace Go.Proofs.YtggjhleomocojaaGreat
set_option maxRecDepth 100000
open Go.RowKit
set_option linter.unusedVariables false
set_option linter.unusedSimpArgs false
theorem flinfo : (Tryz.prog.info? 63).map (fun i => (i.zero, i.size, i.bytes)) = some (some (.pointer none), 1, 8) := by kernel_rfl
theorem rowL_at {w : World} {t0 : Option Addr} {tc : Nat} {L : List LsV} (hr : RdR w (.slice t0 L.length tc) 1 (L.map LsV.cs)) {k : Nat} {x : LsV} (hx : L[k]? = some x) : ∃ bk off, t0 = some ⟨bk, off, none⟩ ∧ w.cell? ⟨bk, off + k, none⟩ = some x.s ∧ L.length ≤ tc ∧ tc ≤ maxLen := by
 have hkl := (List.getElem?_eq_some_iff.1 hx).1
 rcases hr with ⟨e, e2⟩ | ⟨_, _, e, e2, _⟩ | ⟨bk, off, cap, e, h1, h2, hc⟩
 ·have : L = [] := by simpa using e2
  rw [this] at hkl
  exact absurd hkl (Nat.not_lt_zero _)
 ·have : L = [] := by simpa using e2
  rw [this] at hkl
  exact absurd hkl (Nat.not_lt_zero _)
 ·rw [List.length_map] at e h1
  cases e
  exact ⟨bk, off, rfl, by have := hc k [x.s] (by rw [List.getElem?_map, hx]; rfl) 0 x.s rfl; simpa using this, h1, h2⟩
def filsI (L : List LsV) : List (Option PutM × FilT) := L.map fun x => filNew0 (filT0 0 1024 x.l 0)
theorem filStart_new {l : List (Int × List Int)} (h : l.length ≤ 12) : filC.start (⟨0, 1024, l.take 64, max 0 0, [], []⟩ : FilT) = filNew0 (filT0 0 1024 l 0) := by
 rw [List.take_of_length_le (by omega)]
 rfl
theorem newFils {w0 wr : World} {κ : Nat → Kd} {qs : Nat → Nat} {ss : List FqS} {ov : Value} {p c : Nat} {cnt : Int} {bs : List Int} (h : MdAt filQ w0 wr κ qs ss) (ho : wr.ownsRow 0 66 1 ov ss.length (ss.map flI)) (hv : ∀ (i : Nat) (x : FqS), ss[i]? = some x → (ss.map flI)[i]? = some (flI x)) (hBuf : Buf wr p c cnt bs) (hp : p < w0.heap.size) (hc : c < w0.heap.size) (hn : ss.length ≤ 1000) :
  Calls Tryz.prog 11 #[.pointer (some ⟨p, 0, none⟩), ov] wr fun e w' => ∃ W κ' av ab, e = .returned (.pointer (some ⟨W, 0, none⟩)) ∧ WoIn filQ w' κ' W p c av nilSl ab ⟨bs, cnt, actsQ (σ := FqS) ss, 0, []⟩ ∧ (∀ i, i < wr.heap.size → κ' i = kdX κ p c i) ∧ wr.heap.size ≤ W ∧ Below wr.heap.size wr w' := by
 have hq : ∀ (i : Nat) (x : FqS), ss[i]? = some x → qs i = x.1 := fun i x hx => (h.mac i x hx).1
 refine h.new ho (fun i x hx => ?_) hBuf hp hc hn
 rw [hq i x hx]
 exact hv i x hx
theorem MeW.start {wm : World} {κm : Nat → Kd} {W p c : Nat} {av : Value} {ab : Nat → Nat} {ss : List FqS} {Lb : List LsV} (hW : WoIn filQ wm κm W p c av nilSl ab ⟨List.replicate (8 * 256) 0, 0, actsQ (σ := FqS) ss, 0, []⟩) (hq : ss.map (·.2) = filsI Lb) (hL : ∀ x ∈ Lb, (∀ y ∈ x.l, (-2147483648 ≤ y.1 ∧ y.1 ≤ 2147483647) ∧ IsB y.2) ∧ True) :
  ∃ P G, MeW 1024 (Lb.map (·.l)) wm wm κm κm W p c av nilSl ab (ss.map (·.1)) 0 P G [] ss ⟨List.replicate (8 * 256) 0, 0, actsQ (σ := FqS) ss, 0, []⟩ := by
 obtain ⟨P, G, h⟩ := FilW.made (N := 8 * 256) (b := 0) (s := 1024) (by omega) (by decide) (by omega) 0 (Lb.map (·.l)) (fun l hl x hx => by
  obtain ⟨y, hy, rfl⟩ := List.mem_map.1 hl
  have := (hL y hy).1 x hx
  exact ⟨this.2, this.1.2⟩)
 refine ⟨P, G, hW, rfl, ?_, rfl, fun _ _ => rfl, Below.keeps (Below.refl _ _), Int.le_refl 0, Int.le_refl 0, Nat.le_refl _⟩
 rw [hq]
 unfold filsI
 rw [List.map_map] at h
 exact h
theorem end_bytes (w : World) (x : Nat × Nat) : RdB (w.alloc (.cells #[.int .u8 101, .int .u8 110, .int .u8 100] 5 x)) (.slice (some ⟨w.heap.size, 0, none⟩) 3 3) [101, 110, 100] := by
 refine .inr (.inr ⟨w.heap.size, 0, 3, rfl, by decide, by decide, fun i hi => ?_⟩)
 have hi : i < 3 := hi
 rw [World.cell?, (MapKept.heap_alloc w _).1, Nat.zero_add]
 match i, hi with
 | 0, _ | 1, _ | 2, _ => rfl
theorem end_rd {w : World} {g : Nat} {a : Option Addr} {n c : Nat} {L : Nat → Prop} (h : Blk w g [.int .i32 99, .slice a n c]) (hr : RdB w (.slice a n c) [101, 110, 100]) (hg : L g) (ho : ∀ j, (Value.slice a n c).ownBlock = some j → L j) : RdMs w L (.slice (some ⟨g, 0, none⟩) 1 1) endL := by
 refine .inr ⟨g, 0, 1, rfl, by decide, by decide, hg, h.lt, fun i x hx => ?_⟩
 match i, hx with
 | 0, hx => cases hx; exact ⟨_, _, _, h.cell 0, h.cell 1, hr, fun _ => ho⟩
 | i + 1, hx => cases hx
theorem draStart_4 : draC.start (⟨0, 1024, min 4 64, 99, []⟩ : DraT) = DraT.mo ⟨0, 1024, 4, 99, []⟩ := dra_stay ⟨0, 1024, 4, 99, []⟩ (by decide +kernel) _
theorem menStart_1 : menC.start (⟨0, 1024, min 1 64, 0⟩ : MenT) = MenT.mo ⟨0, 1024, 1, 0⟩ := by rfl
set_option maxHeartbeats 8000000 in
theorem mends_main (t0 : Option Addr) (tc : Nat) (Lb : List LsV) (sa : Option Addr) (sn sc : Nat) (pk : List Int) (w : World) (hr : RdR w (.slice t0 Lb.length tc) 1 (Lb.map LsV.cs)) (hL : ∀ x ∈ Lb, LsV.Ok w x) (h5 : Lb.length ≤ 5) (rp : RdB w (.slice sa sn sc) pk) (bp : IsB pk) (h200 : sn ≤ 200) :
  Calls Tryz.prog 6 #[.slice t0 Lb.length tc, .slice sa sn sc] w fun e w' => e = .returned (.bool true) ∧ Below w.heap.size w w' := by
 obtain ⟨i0, hi, hz0, hz1, hz2⟩ := info_parts flinfo
 obtain ⟨j0, hj, hy0, hy1, hy2⟩ := info_parts mcinfoO
 have HR := Lib.hid hr
 have HL := Lib.hid hL
 have RP := Lib.hid rp
 have BP := Lib.hid bp
 have HSN := Lib.hid (rd_len rp)
 have hi8 : ¬ (5 : Int) < (Lb.length : Int) := by omega
 have hi200 : ¬ (200 : Int) < (sn : Int) := by omega
 clear hr hL rp bp
 go_enter Tryz.func6, Tryz.ntmps6
 go_wp2_with fail
 refine (fixed10_any _).mono ?_
 rintro e w1 ⟨rfl, b1⟩
 have z1 := b1.size
 have B1 := Lib.hid b1
 clear b1
 go_upto_region 6 with fail
 obtain ⟨w2, hw2⟩ : ∃ w2, w2 = w1.alloc (.cells #[.int .i64 0, .int .i64 1024] 25) := ⟨_, rfl⟩
 have b2 : Below w1.heap.size w1 w2 := by rw [hw2]; go_grown
 have X2 := Lib.hid (show Blk w2 w1.heap.size [.int .i64 0, .int .i64 1024] by rw [hw2]; exact Blk.made _ _ _)
 have z2 : w2.heap.size = w1.heap.size + 1 := by rw [hw2]; simp
 have B2 := Lib.hid (B1.out.trans (b2.mono z1))
 rw [← hw2]
 clear hw2 b2 B1
 go_wp2_with fail
 refine (mNew_at 2048 256 _ (by decide) (by decide) (by decide)).mono ?_
 rintro e w3 ⟨p, c, rfl, hb3, hp, hc, b3⟩
 have z3 := b3.size
 have HB3 := Lib.hid hb3
 have X3 := Lib.hid (X2.out.below b3 (by omega))
 have B3 := Lib.hid (B2.out.trans (b3.mono (by omega)))
 have lpc := hb3.hd.lt
 have lcc := Blk.lt hb3.wd
 have lx3 : w1.heap.size < w3.heap.size := by omega
 clear hb3 b3 X2 B2
 go_upto_region 9 with fail
 obtain ⟨wk, hwk⟩ : ∃ wk, wk = w3.alloc (.cells #[] 66) := ⟨_, rfl⟩
 have bk0 : Below w3.heap.size w3 wk := by rw [hwk]; exact (Below.refl _ _).alloc (Nat.le_refl _) _
 have MK := Lib.hid (show wk.ownsRow 0 66 1 (.slice (some ⟨w3.heap.size, 0, none⟩) 0 0) 0 [] by rw [hwk]; exact own_emptyP w3 _ 1)
 have BK := Lib.hid bk0
 have zk := bk0.size
 rw [← hwk]
 clear hwk bk0
 go_wp2_with fail
 go_loopw [8, 9, 41] (fun pv mv i wr => ∃ (k : Nat) (κ : Nat → Kd) (ss : List FqS), k ≤ Lb.length ∧ i = .int .i64 k ∧ FilsTo w3 wr pv κ ss ∧ ss.map (·.2) = filsI (Lb.take k) ∧ wr.ownsRow 0 66 1 mv ss.length (ss.map flI) ∧ (∀ g, mv.ownBlock = some g → w3.heap.size ≤ g ∧ κ g = .no ∧ pv.ownBlock ≠ some g) ∧ (∀ j, j < k → ∀ x, Lb[j]? = some x → fewB x.l = true)) (fun _ _ i _ => Lb.length - (intOf i).toNat)
 case atStart => exact ⟨0, fun _ => .no, [], by omega, rfl, FilsTo.start w3 wk BK.out, rfl, MK.out, (fun g h => by cases h; exact ⟨Nat.le_refl _, rfl, nofun⟩), fun j h => absurd h (Nat.not_lt_zero _)⟩
 case round =>
  obtain ⟨k, κ, ss, hk, rfl, hP, hEQ, hM, hMo, hsm⟩ := hrel
  have HP := Lib.hid hP
  have HM := Lib.hid hM
  have HMO := Lib.hid hMo
  have HSM := Lib.hid hsm
  have HEQ := Lib.hid hEQ
  have hbl := B3.out.trans (hP.bel.mono (by omega))
  have hss : ss.length = k := by
   have := congrArg List.length hEQ
   unfold filsI at this
   simpa [Nat.min_eq_left hk] using this
  have HSS := Lib.hid hss
  have HBL := Lib.hid hbl
  have zr := hP.bel.size
  have XR := Lib.hid (X3.out.below hP.bel lx3)
  obtain ⟨ma, ml, mc, rfl⟩ := own_isSl hM
  obtain ⟨oa, ol, oc, rfl⟩ := own_isSl hP.ow
  have hol : ol = ss.length := by
   rcases hP.ow.2 with ⟨e, h0⟩ | ⟨g, cap, cur, e, _⟩
   ·cases e
    exact h0.symm
   ·cases e
    rfl
  have hml : ml = ss.length := by
   rcases hM.2 with ⟨e, h0⟩ | ⟨g, cap, cur, e, _⟩
   ·cases e
    exact h0.symm
   ·cases e
    rfl
  subst hol hml
  clear hP hM hMo hsm hbl hss hEQ
  by_cases hkl : k < Lb.length
  ·as_aux_lemma =>
   obtain ⟨x, hx⟩ : ∃ x, Lb[k]? = some x := ⟨_, List.getElem?_eq_getElem hkl⟩
   have HXK := Lib.hid hx
   have hxm := HL.out x (List.mem_of_getElem? hx)
   obtain ⟨bk, off, rfl, hcell, hc1, hc2⟩ := rowL_at HR.out hx
   obtain ⟨⟨xa, xn, xc, hsv⟩, hrd, hib⟩ := hxm
   rw [hsv] at hcell hrd
   have hcr := (HBL.out.cell (p := ⟨bk, off + k, none⟩) (World.block_lt_of_cell? w _ hcell)).trans hcell
   have RX := Lib.hid (hrd.below HBL.out)
   have HIB := Lib.hid hib
   have y0 := XR.out.cell 0
   have y1 := XR.out.cell 1
   have lx := XR.out.lt
   simp only [List.getElem?_cons_zero, List.getElem?_cons_succ] at y0 y1
   have hki : (k : Int) < (Lb.length : Int) := by omega
   clear hcell hrd hib hsv hx
   go_wp2_with fail
   refine (few_any RX.out).mono ?_
   rintro e wf ⟨rfl, bf⟩
   have BF := Lib.hid bf
   have zf := bf.size
   clear bf
   cases hfw : fewB x.l with
   | false =>
    go_wp2
    go_ret
    exact ⟨rfl, HBL.out.trans (BF.out.mono HBL.out.size)⟩
   | true =>
   have HFB := Lib.hid hfw
   have HFT := Lib.hid (fewB_true hfw)
   have RXF := Lib.hid (RX.out.below BF.out)
   have XRF := Lib.hid (XR.out.below BF.out XR.out.lt)
   have HP := Lib.hid (HP.out.below BF.out)
   have HM := Lib.hid (ownsRow_keep HM.out (Below.keeps (M := fun _ => False) BF.out) (fun _ _ => id))
   have HBL := Lib.hid (HBL.out.trans (BF.out.mono HBL.out.size))
   have y0 := XRF.out.cell 0
   have y1 := XRF.out.cell 1
   have lx := XRF.out.lt
   simp only [List.getElem?_cons_zero, List.getElem?_cons_succ] at y0 y1
   clear hfw hcr
   go_wp2_with fail
   refine (filNew_any 0 1024 0 _ x.l _ _ RXF.out (fun y hy => ⟨(HIB.out y hy).2, by have := HFT.out.1 y hy; omega⟩) (by decide) (by decide) (by decide) (by decide) (by decide)).mono ?_
   rintro e w4 ⟨q, F, rfl, hq, hinv, hFw, b4⟩
   rw [filStart_new HFT.out.2] at hinv
   unfold ptr
   have HF4 := Lib.hid hinv
   have HFW := Lib.hid hFw
   have B4 := Lib.hid b4
   have s4 := b4.size
   have b5 : Below w4.heap.size w4 (w4.alloc (Obj.cells #[.pointer (some ⟨q, 0, none⟩)] 63)) := (Below.refl _ _).alloc (Nat.le_refl _) _
   have OO := Lib.hid (((HP.out.below b4).below b5).ow)
   have NB := Lib.hid (show Blk (w4.alloc (Obj.cells #[.pointer (some ⟨q, 0, none⟩)] 63)) w4.heap.size [.pointer (some ⟨q, 0, none⟩)] from Blk.made w4 _ _)
   have B5 := Lib.hid b5
   clear hinv hFw b4 b5 y0 y1
   go_wp2_with (refine list_app1 rfl (.tmp 51) (.tmp 53) 81 63 rfl Tryz.underlying81 hi hz0 hz1 hz2 rfl (by decide) (.slice oa ss.length oc) ss.length (ss.map flP) rfl OO.out w4.heap.size [.pointer (some ⟨q, 0, none⟩)] rfl NB.out rfl (by simp [Value.oneCell']) (by have := HSS.out; omega) (by have := HSS.out; unfold maxLen; omega) ?_)
   intro v5 w5 o5 g5 e5
   obtain ⟨za, zl, zc, rfl⟩ := own_isSl o5
   have k5 : Keep (fun i => (Value.slice oa ss.length oc).ownBlock = some i) w4 w5 := (Below.keeps B5.out).trans (grown_keep g5)
   have e5' : (Value.slice za zl zc).ownBlock = (Value.slice oa ss.length oc).ownBlock ∨ ∃ i, (Value.slice za zl zc).ownBlock = some i ∧ w4.heap.size ≤ i := e5.imp id fun h => ⟨_, h, by first | omega | (rw [World.size_alloc]; omega)⟩
   obtain ⟨κ', hκ1, hκ2, hP'⟩ := HP.out.next2 B4.out HF4.out HFW.out k5 o5 e5'
   have HP' := Lib.hid hP'
   have K5 := Lib.hid k5
   have HK1 := Lib.hid hκ1
   have HK2 := Lib.hid hκ2
   have E5 := Lib.hid e5'
   have s5 := k5.size
   have PLT := Lib.hid (World.ownsRow.lt HP.out.ow)
   have MLT := Lib.hid (World.ownsRow.lt HM.out)
   have HM5 := Lib.hid (ownsRow_keep (ownsRow_keep HM.out (Below.keeps (M := fun _ => False) B4.out) (fun _ _ => id)) k5 (fun i hi h => (HMO.out i hi).2.2 h))
   clear hP' o5 g5 e5 e5' k5 hκ1 hκ2 NB OO
   have b6 : Below w5.heap.size w5 (w5.alloc (Obj.cells #[.iface 63 (.pointer (some ⟨q, 0, none⟩))] 66)) := (Below.refl _ _).alloc (Nat.le_refl _) _
   have OO := Lib.hid (ownsRow_keep HM5.out (Below.keeps (M := fun _ => False) b6) (fun _ _ => id))
   have NB := Lib.hid (show Blk (w5.alloc (Obj.cells #[.iface 63 (.pointer (some ⟨q, 0, none⟩))] 66)) w5.heap.size [.iface 63 (.pointer (some ⟨q, 0, none⟩))] from Blk.made w5 _ _)
   have B6 := Lib.hid b6
   clear b6
   go_wp2_with (refine list_app1 rfl (.tmp 55) (.tmp 58) 39 66 rfl Tryz.underlying39 hj hy0 hy1 hy2 rfl (by decide) (.slice ma ss.length mc) ss.length (ss.map flI) rfl OO.out w5.heap.size [.iface 63 (.pointer (some ⟨q, 0, none⟩))] rfl NB.out rfl (by simp [Value.oneCell']) (by have := HSS.out; omega) (by have := HSS.out; unfold maxLen; omega) ?_)
   intro v7 w7 o7 g7 e7
   obtain ⟨ya, yl, yc, rfl⟩ := own_isSl o7
   have k7 : Keep (fun i => (Value.slice ma ss.length mc).ownBlock = some i) w5 w7 := (Below.keeps B6.out).trans (grown_keep g7)
   have e7' : (Value.slice ya yl yc).ownBlock = (Value.slice ma ss.length mc).ownBlock ∨ ∃ i, (Value.slice ya yl yc).ownBlock = some i ∧ w5.heap.size ≤ i := e7.imp id fun h => ⟨_, h, by first | omega | (rw [World.size_alloc]; omega)⟩
   have HO7 := Lib.hid o7
   have HM7 : Hid (∀ i, (Value.slice ma ss.length mc).ownBlock = some i → (κ' i = .no ∧ w3.heap.size ≤ i) ∧ (Value.slice za zl zc).ownBlock ≠ some i) := Lib.hid (fun i hi => by
    have h1 := HMO.out i hi
    have h2 := (MLT.out i hi).2
    refine ⟨⟨(HK1.out i h2).trans h1.2.1, h1.1⟩, fun h => ?_⟩
    rcases E5.out with e | ⟨i', e, hi'⟩
    ·rw [e] at h; exact h1.2.2 h
    ·rw [e] at h; cases h; omega)
   have HP7 := Lib.hid (HP'.out.beside k7 (fun i h => (HM7.out i h).1) (fun i h => (HM7.out i h).2))
   have E7 := Lib.hid e7'
   have ZLT := Lib.hid (World.ownsRow.lt HP'.out.ow)
   clear o7 g7 e7 e7' k7
   go_wp2
   refine ⟨⟨k + 1, κ', _, by omega, by go_num, HP7.out, ?_, ?_, fun g hg => ?_, fun j hj y hy => ?_⟩, by simp [intOf]; omega⟩
   ·rw [List.map_append, HEQ.out]
    have e0 : Lb.take (k + 1) = Lb.take k ++ [x] := by rw [List.take_add_one, HXK.out]; rfl
    rw [e0]
    unfold filsI
    rw [List.map_append]
    rfl
   ·rw [List.length_append, List.map_append]
    exact HO7.out
   ·rcases E7.out with e | ⟨i, e, hi⟩
    ·rw [e] at hg
     have := HM7.out g hg
     exact ⟨this.1.2, this.1.1, this.2⟩
    ·rw [e] at hg
     cases hg
     refine ⟨by omega, HK2.out _ (by omega), fun h => ?_⟩
     have := (ZLT.out _ h).2
     omega
   ·by_cases hjk : j < k
    ·exact HSM.out j hjk y hy
    ·obtain rfl : j = k := by omega
     have := HXK.out
     rw [hy] at this
     cases this
     exact HFB.out
  ·obtain rfl : k = Lb.length := by omega
   have hni : ¬ (Lb.length : Int) < (Lb.length : Int) := by omega
   rw [List.take_of_length_le (Nat.le_refl _)] at HEQ
   obtain ⟨qs, hmd⟩ := HP.out.md
   go_wp2_with fail
   refine (newFils (p := p) (c := c) (cnt := 0) (bs := List.replicate (8 * 256) 0) hmd HM.out (fun i x hx => by rw [List.getElem?_map, hx]; rfl) (HB3.out.belows hmd.bel) (by omega) (by omega) (by have := HSS.out; omega)).mono ?_
   rintro e wm ⟨W, κm, av, ab, rfl, hW, hκ, hWs, b6⟩
   have HST := Lib.hid (MeW.start hW HEQ.out (fun y hy => ⟨(HL.out y hy).b, trivial⟩))
   have z6 := b6.size
   have hno : ∀ i, i < w3.heap.size → i ≠ p → i ≠ c → κm i = .no := fun i h1 h2 h3 => (hκ i (by omega)).trans (kdX_no hmd h1 h2 h3)
   have HNO := Lib.hid hno
   have HNW := Lib.hid (show ∀ i, i < w.heap.size → κm i = .no from fun i hi => hno i (by have := B3.out.size; omega) (by omega) (by omega))
   have HX1 := Lib.hid (show κm w1.heap.size = .no from hno _ lx3 (by omega) (by omega))
   have hpo : wm.ownsRow 0 63 1 (.slice oa ss.length oc) ss.length (ss.map flP) := ownsRow_keep HP.out.ow (Below.keeps (M := fun _ => False) b6) (fun _ _ => id)
   have HPO := Lib.hid hpo
   have HPN := Lib.hid (show ∀ g, (Value.slice oa ss.length oc).ownBlock = some g → κm g = .no ∧ w3.heap.size ≤ g from fun g hg => by
    have h1 := HP.out.om g hg
    have h2 := (World.ownsRow.lt (HP.out.ow) g hg).2
    refine ⟨?_, h1.1⟩
    rw [hκ g (by omega)]
    unfold kdX
    rw [if_neg (by omega)]
    exact h1.2)
   have BM := Lib.hid (HBL.out.trans (b6.mono HBL.out.size))
   have XM := Lib.hid (XR.out.below b6 XR.out.lt)
   have hs8 : ss.length ≤ 8 := by have := HSS.out; omega
   have hzm : wr.heap.size ≤ wm.heap.size := z6
   have H12 := Lib.hid (show ∀ l ∈ Lb.map (·.l), l.length ≤ 12 from fun l hl => by obtain ⟨y, hy, rfl⟩ := List.mem_map.1 hl; obtain ⟨j, hj⟩ := List.getElem?_of_mem hy; exact (fewB_true (HSM.out j (List.getElem?_eq_some_iff.1 hj).1 y hj)).2)
   clear hW hκ hno hpo hmd HM HMO HSM HP XR HB3 HBL z6 b6
   go_wp2_with fail
   go_loopw [66] (fun i wl => ∃ (n : Nat) (κ1 : Nat → Kd) (tv : Value) (P : List PutM) (G : List (Nat × Nat)) (A : List (Slot × Nat)) (L : List FqS) (S : SW filQ.M.σ), n ≤ sn ∧ i = .int .i64 n ∧ MeW 1024 (Lb.map (·.l)) wm wl κm κ1 W p c av tv ab (ss.map (·.1)) n P G A L S) (fun i _ => sn - (intOf i).toNat)
   case atStart =>
    obtain ⟨P0, G0, hst⟩ := HST.out
    exact ⟨0, _, _, P0, G0, _, _, _, by omega, rfl, hst⟩
   case round =>
    obtain ⟨n, κ1, tv, P, G, A, L, S, hn, rfl, hO⟩ := hrel
    have HO := Lib.hid hO
    have hBL : Below w.heap.size w wr := BM.out.trans (hO.kp.below (B := w.heap.size) BM.out.size (fun i hi h => h (HNW.out i hi)))
    have HBL := Lib.hid hBL
    have HXR := Lib.hid (XM.out.keep hO.kp (fun h => h HX1.out))
    have hz := hO.kp.size
    clear hO hBL
    by_cases hnl : n < sn
    ·as_aux_lemma =>
     have hni : (n : Int) < (sn : Int) := by omega
     obtain ⟨bk, off, rfl, hcell, hc1, hc2⟩ := rdB_at RP.out (k := n) (by have := HSN.out; omega)
     have hcr := (HBL.out.cell (p := ⟨bk, off + n, none⟩) (World.block_lt_of_cell? w _ hcell)).trans hcell
     have hxb := BP.out.getD n
     obtain ⟨x, hx⟩ : ∃ x, x = gB pk n := ⟨_, rfl⟩
     rw [← hx] at hcr hxb
     clear hcell
     by_cases h0 : 0 < ss.length
     ·have h0' : (0 : Int) < (ss.length : Int) := by omega
      obtain ⟨j, hj⟩ : ∃ j : Nat, x % (ss.length : Int) = j := ⟨(x % (ss.length : Int)).toNat, by have := Int.emod_nonneg x (show (ss.length : Int) ≠ 0 by omega); omega⟩
      have hjs : j < ss.length := by have := Int.emod_lt_of_pos x (show 0 < (ss.length : Int) by omega); omega
      have hjt : x.tmod (ss.length : Int) = (j : Int) := by rw [Int.tmod_eq_emod_of_nonneg hxb.1]; exact hj
      have W2 : IntKind.i64.wrap (j : Int) = (j : Int) := IntWalk.i64_in _ ⟨by omega, by omega⟩
      have hz1' : ¬ ((ss.length : Int) = 0) := by omega
      clear hj hx
      go_wp2_with fail
      refine (wPick_step HO.out.wo j 0 HO.out.c0 (by have := HO.out.c1; omega) (by have := HO.out.tr; omega)).mono ?_
      rintro e w' hp
      obtain ⟨κ2, tv2, P2, G2, A2, L2, hO2⟩ := HO.out.pick (j := j) (by simp; omega) hp
      obtain ⟨_, _, _, _, _, _, rfl, _⟩ := hp
      have HO2 := Lib.hid hO2
      clear hO2
      go_wp2
      exact ⟨⟨n + 1, κ2, tv2, P2, G2, A2, L2, _, by omega, by go_num, HO2.out⟩, by simp [intOf]; omega⟩
     ·have h0' : ¬ (0 : Int) < (ss.length : Int) := by omega
      go_wp2
      obtain ⟨a1, a2, a3, a4, a5, a6, a7, a8, a9⟩ := HO.out
      exact ⟨⟨n + 1, κ1, tv, P, G, A, L, S, by omega, by go_num, a1, a2, a3, a4, a5, a6, a7, by omega, by omega⟩, by simp [intOf]; omega⟩
    ·obtain rfl : n = sn := by omega
     have hni : ¬ (n : Int) < (n : Int) := by omega
     clear hnl HST
     have r0 := HXR.out.cell 0
     have r1 := HXR.out.cell 1
     have lxr := HXR.out.lt
     simp only [List.getElem?_cons_zero, List.getElem?_cons_succ] at r0 r1
     have kc := fun (w : World) (C : Array Value) (n c : Nat) => Lib.run_convert_bytes_const (P := Tryz.prog) w 32 5 C n c Tryz.underlying32 Tryz.underlying5
     go_wp2_with fail
     obtain ⟨w5, hw5⟩ : ∃ w5, w5 = (wr.alloc (.cells #[.int .u8 101, .int .u8 110, .int .u8 100] 5 (3, 4))).alloc (.cells #[.int .i32 99, .slice (some ⟨wr.heap.size, 0, none⟩) 3 3] 34) := ⟨_, rfl⟩
     have b5 : Below wr.heap.size wr w5 := by rw [hw5]; go_grown
     have hr5 : RdMs w5 (fun _ => True) (.slice (some ⟨wr.heap.size + 1, 0, none⟩) 1 1) endL := by
      have hb := Blk.made2 wr (Obj.cells #[.int .u8 101, .int .u8 110, .int .u8 100] 5 (3, 4)) #[.int .i32 99, .slice (some ⟨wr.heap.size, 0, none⟩) 3 3] 34
      rw [← hw5] at hb
      have rd4 : RdB w5 (.slice (some ⟨wr.heap.size, 0, none⟩) 3 3) [101, 110, 100] := by
       rw [hw5]
       exact (end_bytes wr (3, 4)).below ((Below.refl _ _).alloc (Nat.le_refl _) _)
      exact end_rd hb rd4 trivial (fun _ _ => trivial)
     have z5 := b5.size
     have B5 := Lib.hid b5
     have HR5 := Lib.hid hr5
     rw [← hw5]
     clear hw5 b5 hr5 r0 r1 kc
     refine (filNew_any 0 1024 0 _ endL _ w5 HR5.out (fun y hy => ⟨(endL_lo y hy).1, by rw [show y = (99, [101, 110, 100]) by simpa [endL] using hy]; decide⟩) (by decide) (by decide) (by decide) (by decide) (by decide)).mono ?_
     rintro e w6 ⟨q9, F9, rfl, hq9, hF, hF9, b6⟩
     rw [filStart_new (show endL.length ≤ 12 by decide)] at hF
     have z6 := b6.size
     have B6 := Lib.hid (B5.out.trans (b6.mono z5))
     have HI6 := Lib.hid (show filQ.inv w6 F9 q9 (q9, filNew0 (filT0 0 1024 endL 0)) from ⟨rfl, hF⟩)
     have HF9 := Lib.hid hF9
     have HFD := Lib.hid (filQ.dom HI6.out).2
     clear hF b6 B5 HR5 hF9
     unfold ptr
     go_wp2_with fail
     obtain ⟨w7, hw7⟩ : ∃ w7, w7 = w6.alloc (Obj.cells #[.iface 63 (.pointer (some ⟨q9, 0, none⟩))] 66) := ⟨_, rfl⟩
     have b7 : Below w6.heap.size w6 w7 := by rw [hw7]; exact (Below.refl _ _).alloc (Nat.le_refl _) _
     have G7 := Lib.hid (show Blk w7 w6.heap.size [.iface 63 (.pointer (some ⟨q9, 0, none⟩))] by rw [hw7]; exact Blk.made w6 _ _)
     have z7 : w7.heap.size = w6.heap.size + 1 := by rw [hw7]; simp
     have B7 := Lib.hid (B6.out.trans (b7.mono (by omega)))
     have HI7 := Lib.hid (filQ.keep HI6.out (Below.keeps (M := fun _ => False) b7) (fun _ _ => id))
     have HBU := Lib.hid (HO.out.wo.buf)
     have lpw := HBU.out.hd.lt
     have lcw := Blk.lt HBU.out.wd
     have HNP := Lib.hid (show ∀ i, F9 i → i ≠ p ∧ i ≠ c ∧ wr.heap.size ≤ i from fun i hi => by have := HF9.out i hi; exact ⟨by omega, by omega, by omega⟩)
     rw [← hw7]
     clear hw7 b7 HI6 B6
     obtain ⟨m9, bs9, P9, G9, A9, t9, e9, hrun, hm, hw9, hd9, hx9⟩ := HO.out.fw.end1 (by rw [List.length_map]; exact h5) H12.out
     have HW9 := Lib.hid hw9
     have HX9 := Lib.hid hx9
     have HD9 := Lib.hid hd9
     have cc0 := HO.out.c0
     have cc1 := HO.out.c1
     refine (soloRun filQ (s := (q9, filNew0 (filT0 0 1024 endL 0))) (s' := (q9, ((none, t9) : Option PutM × FilT))) (HBU.out.belows B7.out) HI7.out (fun h => (HNP.out p h).1 rfl) (fun h => (HNP.out c h).2.1 rfl) G7.out 9999 (ChP.runsQ q9 hrun) rfl (by omega) (by decide) (by omega) (by omega)).mono ?_
     rintro e w8 ⟨W2, rfl, hR⟩
     clear hrun hw9 hx9 hd9
     go_wp2_with fail
     refine hR.mono ?_
     rintro e w9 ⟨⟨k2, rfl⟩, hb9, ⟨F9', q9', hI9', np9, nc9, hF9'⟩, k9⟩
     obtain ⟨rfl, hPF9⟩ := hI9'
     have HB9 := Lib.hid hb9
     have HPF9 := Lib.hid (show filK.P w9 q9' F9' none t9 from hPF9.1)
     have K9 := Lib.hid (show Keep (fun i => i = p ∨ i = c) wr w9 from ((Below.keeps (M := fun i => i = p ∨ i = c) B7.out).then k9 (fun i hi hh => hh.elim (fun h9 => by have := HNP.out i h9; omega) id)))
     have NP9 := Lib.hid (show ∀ j, F9' j → (j ≠ p ∧ j ≠ c) ∧ wm.heap.size ≤ j from fun j hj => ⟨⟨fun e => np9 (e ▸ hj), fun e => nc9 (e ▸ hj)⟩, (hF9' j hj).elim (fun h => by have := (HNP.out j h).2.2; omega) (fun h => by have := B7.out.size; omega)⟩)
     have POLT := Lib.hid (show ∀ j, (Value.slice oa ss.length oc).ownBlock = some j → j < wm.heap.size from fun j hj => (World.ownsRow.lt HPO.out j hj).2)
     have z9 := k9.size
     have zk9 := K9.out.size
     have PI9 := Lib.hid ((FilsIn.of HO.out.wo HO.out.acts (M := fun j => j = p ∨ j = c ∨ (Value.slice oa ss.length oc).ownBlock = some j) (fun j hj => by
      rcases hj with rfl | rfl | hj
      ·exact .inr HO.out.wo.kp
      ·exact .inr HO.out.wo.kc
      ·exact .inl ((HO.out.kd j (POLT.out j hj)).trans (HPN.out j hj).1))).keep K9.out (fun j _ h => h.elim .inl (fun h => .inr (.inl h))))
     have BW9 := Lib.hid (HBL.out.trans (K9.out.below (B := w.heap.size) HBL.out.size (fun i hi h => by have := B3.out.size; omega)))
     have X9 := Lib.hid (HXR.out.keep K9.out (by omega))
     have PO9 := Lib.hid (ownsRow_keep (ownsRow_keep HPO.out HO.out.kp (fun i hi h => h (HPN.out i hi).1)) K9.out (fun i hi h => by have := (HPN.out i hi).2; omega))
     clear hR hb9 hPF9 k9 np9 nc9 hF9' HI7 G7 B7 HF9 HFD HNP
     go_wp2_with fail
     refine (filDone_any HPF9.out).mono ?_
     rintro e w10 ⟨v10, rfl, o10, p10, b10⟩
     rw [HD9.out] at o10
     obtain ⟨g10, cp10, rfl, lg10, hc10⟩ := own_ints o10 (Nat.succ_pos _)
     have d10 := hc10 0 e9 rfl
     have B10 := Lib.hid b10
     have z10 := b10.size
     clear o10 p10 b10 hc10
     by_cases he9 : e9 = 0
     ·have HE9 := Lib.hid he9
      rw [he9] at d10
      obtain ⟨hfx9, hln9, hmg9, hnf9⟩ := HX9.out he9
      clear he9
      have HFX9 := Lib.hid hfx9
      have HLN9 := Lib.hid hln9
      have HMG9 := Lib.hid hmg9
      have HNF9 := Lib.hid hnf9
      have HB10 := Lib.hid (HB9.out.belows B10.out)
      have BW10 := Lib.hid (BW9.out.trans (B10.out.mono BW9.out.size))
      have X10 := Lib.hid (X9.out.below B10.out X9.out.lt)
      have HPF10 := Lib.hid (filK.below HPF9.out B10.out)
      have lp10 := HB10.out.hd.lt
      have lc10 := Blk.lt HB10.out.wd
      clear hfx9 hln9 hmg9 hnf9
      go_wp2_with fail
      go_loopw [18, 107] (fun gv i wl => ∃ (r : Nat) (cnt : Int) (bs : List Int) (out : List (Int × List Int)) (O R : Nat → Prop), r ≤ 70 ∧ i = .int .i64 r ∧ Buf wl p c cnt bs ∧ 0 ≤ cnt ∧ cnt ≤ 20000 + r * 400000 ∧ Fixing 0 1024 A9 False bs out r ∧ MsIn wl O R gv out ∧ (∀ i, O i ∨ R i → w10.heap.size ≤ i ∧ i < wl.heap.size) ∧ (∀ i, O i → ¬ R i) ∧ Keep (fun i => i = p ∨ i = c) w10 wl) (fun _ i _ => 70 - (intOf i).toNat)
      case atStart => exact ⟨0, _, bs9, [], fun _ => False, fun _ => False, by omega, rfl, HB10.out, by omega, by omega, HFX9.out, msIn_none _ _ _, fun i h => by rcases h with h | h <;> exact h.elim, fun i h => h.elim, Below.keeps (Below.refl _ _)⟩
      case round =>
       obtain ⟨r, cnt, bs, out, O, R, hr, rfl, hbf, hc0, hc1, hfx, hms, hor, hdj, hkp⟩ := hrel
       obtain ⟨ga, gc, rfl⟩ := hms.sl
       have HBF := Lib.hid hbf
       have HFX := Lib.hid hfx
       have HMS := Lib.hid hms
       have HKP := Lib.hid hkp
       have HDJ := Lib.hid hdj
       have zl := hkp.size
       have HXR := Lib.hid (X10.out.keep hkp (by have := X9.out.lt; omega))
       have HBL := Lib.hid (BW10.out.trans (hkp.below (B := w.heap.size) BW10.out.size (fun i hi h => by have := B3.out.size; omega)))
       clear hbf hfx hms hkp hdj HFX9
       by_cases hrl : r < 70
       ·as_aux_lemma =>
        have hri : (r : Int) < 70 := by omega
        have r0 := HXR.out.cell 0
        have r1 := HXR.out.cell 1
        have lxr := HXR.out.lt
        simp only [List.getElem?_cons_zero, List.getElem?_cons_succ] at r0 r1
        go_wp2_with fail
        refine (draNew_any 0 1024 4 99 wr (by decide) (by decide) (by decide) (by decide)).mono ?_
        rintro e w11 ⟨q3, F3, rfl, hq3, hinv, hF3, b11⟩
        rw [draStart_4] at hinv
        have z11 := b11.size
        have B11 := Lib.hid b11
        have HI11 := Lib.hid (show (Fam.Q draFam).inv w11 F3 q3 (q3, DraT.mo ⟨0, 1024, 4, 99, []⟩) from ⟨rfl, hinv⟩)
        have HF3 := Lib.hid hF3
        have X11 := Lib.hid (HXR.out.below b11 lxr)
        clear hinv hF3 b11 r0 r1
        unfold ptr
        go_wp2_with fail
        obtain ⟨w12, hw12⟩ : ∃ w12, w12 = w11.alloc (Obj.cells #[.iface 61 (.pointer (some ⟨q3, 0, none⟩))] 66) := ⟨_, rfl⟩
        have b12 : Below w11.heap.size w11 w12 := by rw [hw12]; exact (Below.refl _ _).alloc (Nat.le_refl _) _
        have G12 := Lib.hid (show Blk w12 w11.heap.size [.iface 61 (.pointer (some ⟨q3, 0, none⟩))] by rw [hw12]; exact Blk.made w11 _ _)
        have z12 : w12.heap.size = w11.heap.size + 1 := by rw [hw12]; simp
        have B12 := Lib.hid (B11.out.trans (b12.mono z11))
        have HI12 := Lib.hid ((Fam.Q draFam).keep HI11.out (Below.keeps (M := fun _ => False) b12) (fun _ _ => id))
        have HN3 := Lib.hid (show ∀ i, F3 i → i ≠ p ∧ i ≠ c ∧ wr.heap.size ≤ i from fun i hi => by have := HF3.out i hi; exact ⟨by omega, by omega, by omega⟩)
        rw [← hw12]
        clear hw12 b12 HI11 B11 HF3
        obtain ⟨m3, bs13, t13, outs, hrun, hmm, hto, hfx13⟩ := HFX.out.drain HLN9.out 4 (t := ⟨0, 1024, 4, 99, []⟩) rfl rfl rfl (by decide +kernel) (by show ((msgs A9).length : Int) < 99; have := HMG9.out; omega)
        have hto : t13.out = outs := by rw [hto]; rfl
        have HFX13 := Lib.hid (hfx13.imp (fun _ => .inr (by decide)) : Fixing 0 1024 A9 True bs13 (out ++ outs) r)
        refine (soloRun (Fam.Q draFam) (s := (q3, DraT.mo ⟨0, 1024, 4, 99, []⟩)) (s' := (q3, ((none, t13) : Option GetM × DraT))) (HBF.out.belows B12.out) HI12.out (fun h => (HN3.out p h).1 rfl) (fun h => (HN3.out c h).2.1 rfl) G12.out 200000 (ChP.runsQ q3 hrun) rfl (by omega) (by decide) (by omega) (by omega)).mono ?_
        rintro e w13 ⟨W3, rfl, hR⟩
        clear hrun hfx13
        go_wp2_with fail
        refine hR.mono ?_
        rintro e w14 ⟨⟨k3, rfl⟩, hb14, ⟨F3', q3', hI14, np3, nc3, hF14⟩, k14⟩
        obtain ⟨rfl, ⟨bx, hPD⟩, _⟩ := hI14
        have HPD := Lib.hid (show (draK bx).P w14 q3' F3' none t13 from hPD)
        have HB14 := Lib.hid hb14
        have K14 := Lib.hid (show Keep (fun i => i = p ∨ i = c) wr w14 from (Below.keeps (M := fun i => i = p ∨ i = c) B12.out).then k14 (fun i hi hh => hh.elim (fun h9 => by have := HN3.out i h9; omega) id))
        have z14 := K14.out.size
        clear hR hb14 k14 hPD np3 nc3 hF14 HI12 G12 B12
        go_wp2_with fail
        refine (draMsgs_any HPD.out).mono ?_
        rintro e w15 ⟨v15, rfl, ms15, b15⟩
        have ms15 : MsIn w15 (fun i => w14.heap.size ≤ i ∧ i < w15.heap.size) (fun i => w14.heap.size ≤ i) v15 (t13.out ++ draRest (none : Option GetM)) := ms15
        rw [show t13.out ++ draRest (none : Option GetM) = outs by rw [hto]; exact List.append_nil _] at ms15
        have z15 := b15.size
        have HMS15 := Lib.hid ms15
        have K15 := Lib.hid (K14.out.then (Below.keeps (M := fun i => i = p ∨ i = c) b15) (fun _ _ h => h))
        have HM1 := Lib.hid (HMS.out.keep K15.out (fun i hi h => by have := hor i (.inl hi); omega) (fun i hi h => by have := hor i (.inr hi); omega))
        have HB15 := Lib.hid (HB14.out.belows b15)
        have HN := Lib.hid (show out.length + outs.length ≤ 100000 by
         have h1 := HFX13.out.few
         have h2 := HMG9.out
         rw [List.length_append] at h1
         omega)
        have HD := Lib.hid (show ∀ i, O i ∨ (w14.heap.size ≤ i ∧ i < w15.heap.size) → ¬ R i from fun i hi hr => by
         rcases hi with hi | hi
         ·exact HDJ.out i hi hr
         ·have h1 := (hor i (.inr hr)).2
          omega)
        clear ms15 b15 HB14
        go_wp2_with (refine list_appMs2 rfl (.tmp 117) (.tmp 119) rfl rfl rfl HM1.out HMS15.out HN.out HD.out ?_)
        intro v16 w16 hm16 k16
        obtain ⟨va, vc, rfl⟩ := hm16.sl
        have HM16 := Lib.hid hm16
        have K16 := Lib.hid k16
        have z16 := k16.size
        have HB16 := Lib.hid (HB15.out.keep k16 (fun h => by have := hor _ (.inr h); omega) (fun h => by have := hor _ (.inr h); omega))
        have X16 := Lib.hid ((HXR.out.keep K15.out (by have := X9.out.lt; omega)).keep k16 (fun h => by have := hor _ (.inr h); have := X9.out.lt; omega))
        have KW16 := Lib.hid ((HKP.out.trans K15.out).then K16.out (fun i hi hh => by have := hor i (.inr hh); omega))
        have r0 := X16.out.cell 0
        have r1 := X16.out.cell 1
        have lxr := X16.out.lt
        simp only [List.getElem?_cons_zero, List.getElem?_cons_succ] at r0 r1
        clear hm16 k16
        go_wp2_with fail
        refine (menNew_any 0 1024 1 w16 (by decide) (by decide) (by decide) (by decide)).mono ?_
        rintro e w17 ⟨q4, F4, rfl, hq4, hinv, hF4, b17⟩
        rw [menStart_1] at hinv
        have z17 := b17.size
        have HI17 := Lib.hid (show (Fam.Q menFam).inv w17 F4 q4 (q4, MenT.mo ⟨0, 1024, 1, 0⟩) from ⟨rfl, hinv⟩)
        have HN4 := Lib.hid (show ∀ i, F4 i → i ≠ p ∧ i ≠ c ∧ w16.heap.size ≤ i from fun i hi => by have := hF4 i hi; exact ⟨by omega, by omega, by omega⟩)
        have B17 := Lib.hid b17
        clear hinv hF4 b17 r0 r1
        unfold ptr
        go_wp2_with fail
        obtain ⟨w18, hw18⟩ : ∃ w18, w18 = w17.alloc (Obj.cells #[.iface 92 (.pointer (some ⟨q4, 0, none⟩))] 66) := ⟨_, rfl⟩
        have b18 : Below w17.heap.size w17 w18 := by rw [hw18]; exact (Below.refl _ _).alloc (Nat.le_refl _) _
        have G18 := Lib.hid (show Blk w18 w17.heap.size [.iface 92 (.pointer (some ⟨q4, 0, none⟩))] by rw [hw18]; exact Blk.made w17 _ _)
        have z18 : w18.heap.size = w17.heap.size + 1 := by rw [hw18]; simp
        have B18 := Lib.hid (B17.out.trans (b18.mono z17))
        have HI18 := Lib.hid ((Fam.Q menFam).keep HI17.out (Below.keeps (M := fun _ => False) b18) (fun _ _ => id))
        rw [← hw18]
        clear hw18 b18 HI17 B17
        obtain ⟨m4, bs19, t19, hrun, hmm4, hfx19⟩ := HFX13.out.mend HLN9.out (by decide +kernel)
        have HFX19 := Lib.hid hfx19
        refine (soloRun (Fam.Q menFam) (s := (q4, MenT.mo ⟨0, 1024, 1, 0⟩)) (s' := (q4, ((none, t19) : Option FixM × MenT))) (HB16.out.belows B18.out) HI18.out (fun h => (HN4.out p h).1 rfl) (fun h => (HN4.out c h).2.1 rfl) G18.out 200000 (ChP.runsQ q4 hrun) rfl (by omega) (by decide) (by omega) (by omega)).mono ?_
        rintro e w19 ⟨W4, rfl, hR⟩
        clear hrun hfx19
        go_wp2_with fail
        refine hR.mono ?_
        rintro e w20 ⟨⟨k4, rfl⟩, hb20, -, k20⟩
        have HB20 := Lib.hid hb20
        have K20 := Lib.hid (show Keep (fun i => i = p ∨ i = c) w16 w20 from (Below.keeps (M := fun i => i = p ∨ i = c) B18.out).then k20 (fun i hi hh => hh.elim (fun h9 => by have := HN4.out i h9; omega) id))
        have z20 := K20.out.size
        have HM20 := Lib.hid (HM16.out.keep K20.out (fun i hi h => by
         rcases hi with hi | hi
         ·have := hor i (.inl hi); omega
         ·omega) (fun i hi h => by
         rcases hi with hi | hi
         ·have := hor i (.inr hi); omega
         ·omega))
        have HM21 := Lib.hid (show MsIn w20 _ _ (.slice va (out.length + outs.length) vc) (out ++ outs) by rw [← List.length_append]; exact HM20.out)
        have KW20 := Lib.hid (KW16.out.trans K20.out)
        clear hR hb20 k20 HI18 G18 B18 HM16
        go_wp2
        refine ⟨⟨r + 1, _, bs19, out ++ outs, _, _, by omega, by go_num, HB20.out, by omega, by omega, HFX19.out, HM21.out, ?_, ?_, KW20.out⟩, by simp [intOf]; omega⟩
        ·rintro i ((hi | hi) | (hi | hi))
         ·have := hor i (.inl hi)
          exact ⟨this.1, by omega⟩
         ·exact ⟨by omega, by omega⟩
         ·have := hor i (.inr hi)
          exact ⟨this.1, by omega⟩
         ·exact ⟨by omega, by omega⟩
        ·rintro i (hi | hi) (hr | hr)
         ·exact HDJ.out i hi hr
         ·have := hor i (.inl hi)
          omega
         ·have h1 := (hor i (.inr hr)).2
          omega
         ·omega
       ·as_aux_lemma =>
        obtain rfl : r = 70 := by omega
        have HSAM := Lib.hid (mends_same HW9.out HFX.out HNF9.out)
        have PIR := Lib.hid ((PI9.out.keep (K := fun _ => False) (Below.keeps B10.out) (fun _ _ h => h.elim)).keep HKP.out (fun j _ h => h.elim .inl (fun h => .inr (.inl h))))
        have POR := Lib.hid (show wr.ownsRow 0 63 1 (.slice oa ss.length oc) ss.length (ss.map flP) from ownsRow_keep (ownsRow_keep PO9.out (Below.keeps (M := fun _ => False) B10.out) (fun _ _ => id)) HKP.out (fun i hi h => by have := (HPN.out i hi).2; omega))
        have H9R := Lib.hid (show filK.P wr q9' F9' none t9 from filK.keep HPF10.out HKP.out (fun j hj h => h.elim (NP9.out j hj).1.1 (NP9.out j hj).1.2))
        have HRR := Lib.hid (HR.out.below HBL.out)
        clear hrl
        obtain ⟨y0i, hl0, hlz0, hlz1, hlz2⟩ := info_parts lsinfo
        have OO := Lib.hid (ownsRow_keep POR.out (Below.keeps (M := fun _ => False) ((Below.refl wr.heap.size wr).alloc (Nat.le_refl _) (Obj.cells #[.pointer (some ⟨q9', 0, none⟩)] 63))) (fun _ _ => id))
        have NB := Lib.hid (show Blk (wr.alloc (Obj.cells #[.pointer (some ⟨q9', 0, none⟩)] 63)) wr.heap.size [.pointer (some ⟨q9', 0, none⟩)] from Blk.made wr _ _)
        go_wp2_with (refine list_app1 rfl (.tmp 129) (.tmp 131) 81 63 rfl Tryz.underlying81 hi hz0 hz1 hz2 rfl (by decide) (.slice oa ss.length oc) ss.length (ss.map flP) rfl OO.out wr.heap.size [.pointer (some ⟨q9', 0, none⟩)] rfl NB.out rfl (by simp [Value.oneCell']) (by have := HSS.out; omega) (by have := HSS.out; unfold maxLen; omega) ?_)
        intro v21 w21 o21 g21 e21
        have k21 : Keep (fun i => (Value.slice oa ss.length oc).ownBlock = some i) wr w21 := (Below.keeps ((Below.refl _ _).alloc (Nat.le_refl _) _)).trans (grown_keep g21)
        have z21 := k21.size
        have HO21 := Lib.hid o21
        have K21 := Lib.hid k21
        have e21' : v21.ownBlock = (Value.slice oa ss.length oc).ownBlock ∨ ∃ i, v21.ownBlock = some i ∧ wr.heap.size ≤ i := e21.imp id fun h => ⟨_, h, by first | omega | (rw [World.size_alloc]; omega)⟩
        have E21 := Lib.hid e21'
        have NOW := Lib.hid (show ∀ i, i < w.heap.size → ¬ (Value.slice oa ss.length oc).ownBlock = some i from fun i hi h => by have := (HPN.out i h).2; have := B3.out.size; omega)
        have B21 := Lib.hid (HBL.out.trans (k21.below (B := w.heap.size) HBL.out.size (fun i hi h => NOW.out i hi h)))
        clear g21 e21 e21' o21 k21 OO NB
        obtain ⟨w22, hw22⟩ : ∃ w22, w22 = w21.alloc (.cells #[] 22) := ⟨_, rfl⟩
        have OE := Lib.hid (own_emptyP w21 22 1)
        have b22 : Below w21.heap.size w21 (w21.alloc (.cells #[] 22)) := (Below.refl _ _).alloc (Nat.le_refl _) _
        have B22 := Lib.hid (B21.out.trans (b22.mono B21.out.size))
        have SRC := Lib.hid (rowL_src (HR.out.below B22.out)).1
        have ONES := Lib.hid (show ∀ u ∈ Lb.map (·.s), u.oneCell' = true from fun u hu => by
         obtain ⟨y, hy, rfl⟩ := List.mem_map.1 hu
         obtain ⟨a, n, c, e⟩ := (HL.out y hy).s
         rw [e]
         rfl)
        clear hw22 w22
        go_wp2_with (refine list_appR rfl (.tmp 133) (.tmp 134) 57 22 rfl Tryz.underlying57 hl0 hlz0 hlz1 hlz2 rfl (by decide) (.slice (some ⟨w21.heap.size, 0, none⟩) 0 0) 0 [] rfl OE.out Lb.length (Lb.map (·.s)) (.slice t0 Lb.length tc) rfl SRC.out (by rw [List.length_map, Nat.mul_one]) ONES.out (by omega) (by unfold maxLen; omega) ?_)
        intro v23 w23 o23 g23 e23
        have b23 : Below w21.heap.size w21 w23 := ((Below.keeps (M := fun _ => False) b22).then (grown_keep g23) (fun i hi h => by cases h; exact absurd hi (Nat.lt_irrefl _))).below (Nat.le_refl _) (fun _ _ h => h)
        have z23 := b23.size
        have HO23 := Lib.hid o23
        have B23 := Lib.hid b23
        have OW23 := Lib.hid (show ∀ i, v23.ownBlock = some i → w21.heap.size ≤ i from fun i hi => by
         rcases e23 with e | e
         ·rw [e] at hi; cases hi; exact Nat.le_refl _
         ·rw [e] at hi; cases hi; omega)
        have OL23 := Lib.hid (World.ownsRow.lt o23)
        clear b22 g23 e23 o23 OE SRC ONES b23
        obtain ⟨w26, hw26⟩ : ∃ w26, w26 = ((w23.alloc (.cells #[.int .u8 101, .int .u8 110, .int .u8 100] 5 (3, 4))).alloc (.cells #[.int .i32 99, .slice (some ⟨w23.heap.size, 0, none⟩) 3 3] 34)).alloc (.cells #[.slice (some ⟨w23.heap.size + 1, 0, none⟩) 1 1] 22) := ⟨_, rfl⟩
        have z26 : w26.heap.size = w23.heap.size + 3 := by rw [hw26]; simp
        have B26 := Lib.hid (show Below w23.heap.size w23 w26 by rw [hw26]; go_grown)
        have EB26 := Lib.hid (show RdMs w26 (fun i => w23.heap.size ≤ i ∧ i < w26.heap.size) (.slice (some ⟨w23.heap.size + 1, 0, none⟩) 1 1) endL by
         have hb := Blk.made2 w23 (Obj.cells #[.int .u8 101, .int .u8 110, .int .u8 100] 5 (3, 4)) #[.int .i32 99, .slice (some ⟨w23.heap.size, 0, none⟩) 3 3] 34
         have b1 : Below (w23.heap.size + 2) ((w23.alloc (Obj.cells #[.int .u8 101, .int .u8 110, .int .u8 100] 5 (3, 4))).alloc (Obj.cells #[.int .i32 99, .slice (some ⟨w23.heap.size, 0, none⟩) 3 3] 34)) w26 := by rw [hw26]; exact (Below.refl _ _).alloc (by simp) _
         have b2 : Below (w23.heap.size + 1) (w23.alloc (Obj.cells #[.int .u8 101, .int .u8 110, .int .u8 100] 5 (3, 4))) w26 := by rw [hw26]; exact ((Below.refl _ _).alloc (by simp) _).alloc (by simp) _
         refine end_rd (hb.below (b1.mono (by simp)) hb.lt) ((end_bytes w23 (3, 4)).below (b2.mono (by simp))) ⟨by omega, by omega⟩ (fun j hj => by cases hj; exact ⟨Nat.le_refl _, by show w23.heap.size < _; omega⟩))
        have NB := Lib.hid (show Blk w26 (w23.heap.size + 2) [.slice (some ⟨w23.heap.size + 1, 0, none⟩) 1 1] by
         have h := Blk.made ((w23.alloc (.cells #[.int .u8 101, .int .u8 110, .int .u8 100] 5 (3, 4))).alloc (.cells #[.int .i32 99, .slice (some ⟨w23.heap.size, 0, none⟩) 3 3] 34)) #[.slice (some ⟨w23.heap.size + 1, 0, none⟩) 1 1] 22
         rw [← hw26] at h
         simpa using h)
        have OO := Lib.hid (ownsRow_keep HO23.out (Below.keeps (M := fun _ => False) B26.out) (fun _ _ => id))
        have kc := fun (w : World) (C : Array Value) (n c : Nat) => Lib.run_convert_bytes_const (P := Tryz.prog) w 32 5 C n c Tryz.underlying32 Tryz.underlying5
        subst hw26
        go_wp2_with (refine list_app1 rfl (.tmp 135) (.tmp 140) 57 22 rfl Tryz.underlying57 hl0 hlz0 hlz1 hlz2 rfl (by decide) v23 Lb.length (Lb.map (·.s)) rfl OO.out (w23.heap.size + 2) [.slice (some ⟨w23.heap.size + 1, 0, none⟩) 1 1] rfl NB.out rfl (by simp [Value.oneCell']) (by omega) (by unfold maxLen; omega) ?_)
        intro v27 w27 o27 g27 e27
        have z27 := (grown_keep g27).size
        have k27 : Keep (fun i => v23.ownBlock = some i) w23 w27 := (Below.keeps B26.out).trans (grown_keep g27)
        have b27 : Below w21.heap.size w21 w27 := ((Below.keeps (M := fun _ => False) B23.out).then k27 (fun i hi h => by have := OW23.out i h; omega)).below (Nat.le_refl _) (fun _ _ h => h)
        have kw27 : Keep (fun i => (Value.slice oa ss.length oc).ownBlock = some i) wr w27 := K21.out.trans (Below.keeps b27)
        have zw27 := kw27.size
        have B27 := Lib.hid (B21.out.trans (b27.mono B21.out.size))
        have KW27 := Lib.hid kw27
        have HO27 := Lib.hid o27
        have EB27 := Lib.hid (show RdMs w27 (fun i => i < w27.heap.size) (.slice (some ⟨w23.heap.size + 1, 0, none⟩) 1 1) endL from (EB26.out.keep (grown_keep g27) (fun i hi h => by have := (OL23.out i h).2; omega)).mono (fun i hi => by have := hi.2; omega))
        have RLS := Lib.hid (show RdLs w27 v27 (Lb.map (·.l) ++ [endL]) from rdls_of HO27.out (Nat.succ_pos _) (by simp) (fun i l hi => by
         by_cases hil : i < Lb.length
         ·rw [List.getElem?_append_left (by rw [List.length_map]; exact hil), List.getElem?_map] at hi
          obtain ⟨y, hy, rfl⟩ := Option.map_eq_some_iff.1 hi
          refine ⟨y.s, ?_, (HL.out y (List.mem_of_getElem? hy)).r.up B27.out⟩
          rw [List.getElem?_append_left (by rw [List.length_map]; exact hil), List.getElem?_map, hy]
          rfl
         ·rw [List.getElem?_append_right (by rw [List.length_map]; omega), List.length_map] at hi
          have e0 : i - Lb.length = 0 := by
           have := (List.getElem?_eq_some_iff.1 hi).1
           simpa using this
          rw [e0] at hi
          cases hi
          refine ⟨_, ?_, EB27.out⟩
          rw [List.getElem?_append_right (by rw [List.length_map]; omega), List.length_map, e0]
          rfl))
        have FIN27 := Lib.hid (PIR.out.keep KW27.out (fun j _ h => .inr (.inr h)))
        have H927 := Lib.hid (filK.keep H9R.out KW27.out (fun j hj h => by have h1 := (NP9.out j hj).2; have h2 := POLT.out j h; omega))
        have O2127 := Lib.hid (ownsRow_keep HO21.out (Below.keeps (M := fun _ => False) b27) (fun _ _ => id))
        have HMS27 := Lib.hid (HMS.out.keep KW27.out (fun i hi h => by have h1 := (hor i (.inl hi)).1; have h2 := POLT.out i h; omega) (fun i hi h => by have h1 := (hor i (.inr hi)).1; have h2 := POLT.out i h; omega))
        have HLL := Lib.hid (show L.length = (Lb.map (·.l)).length by have h1 := HO.out.len; have h2 := HSS.out; rw [List.length_map] at h1 ⊢; omega)
        have HVS := Lib.hid (show ss.map flP = L.map (fun x => ptr x.1) by
         have h := congrArg (List.map ptr) HO.out.key
         rw [List.map_map, List.map_map] at h
         exact h.symm)
        clear g27 e27 o27 k27 kw27 b27 kc OO NB EB26 B26 HO23
        go_wp2_with fail
        refine (mends_all (L := L) (ls := Lb.map (·.l)) (t9 := t9) (q9 := q9') (n := ss.length) (vs := ss.map flP) HLL.out (by rw [List.length_map]; exact HSS.out) O2127.out HVS.out (fun i x hx => by
         obtain ⟨F, hF, _⟩ := FIN27.out.at_ i x hx
         exact ⟨F, x.2.1, hF.1⟩) ⟨_, _, H927.out⟩ RLS.out HW9.out.zd H12.out (by rw [List.length_map]; exact h5)).mono ?_
        rintro e w28 ⟨v28, rfl, o28, hb28, b28⟩
        obtain ⟨PT, hPT⟩ : ∃ PT, PT = allP (zipF (L.map (·.2) ++ [((none, t9) : Option PutM × FilT)]) (Lb.map (·.l) ++ [endL])) := ⟨_, rfl⟩
        obtain ⟨hsm1, hsm2⟩ := HSAM.out
        rw [← hPT] at o28 hsm1 hsm2
        rw [← hsm1] at o28
        obtain ⟨xa, xl, xc, rfl⟩ := own_isSl o28
        have hxl : xl = out.length := by
         rcases o28.2 with ⟨e, h0⟩ | ⟨g, cap, cur, e, _⟩
         ·cases e
          exact h0.symm
         ·cases e
          rfl
        subst hxl
        have HO28 := Lib.hid o28
        have HSM2 := Lib.hid hsm2
        have HSM1 := Lib.hid hsm1
        have HB28 := Lib.hid (B27.out.trans (b28.mono B27.out.size))
        have HMS28 := Lib.hid (HMS27.out.keep (Below.keeps (M := fun _ => False) b28) (fun _ _ => id) (fun _ _ => id))
        have OLEN := Lib.hid (show out.length ≤ 99 by have := HFX.out.few; have := HMG9.out; omega)
        clear o28 hsm1 hsm2 b28 hb28 hPT HSAM FIN27 H927 O2127 RLS HVS HLL HMS27 EB27 HO27
        go_wp2_with fail
        go_loopw [154] (fun i wl => ∃ n : Nat, n ≤ out.length ∧ i = .int .i64 n ∧ Below w28.heap.size w28 wl) (fun i _ => out.length - (intOf i).toNat)
        case atStart => exact ⟨0, by omega, rfl, Below.refl _ _⟩
        case round =>
         obtain ⟨n7, hn7, rfl, hB⟩ := hrel
         by_cases hlt : n7 < out.length
         ·obtain ⟨⟨t, d⟩, hx⟩ : ∃ x, out[n7]? = some x := ⟨_, List.getElem?_eq_getElem hlt⟩
          have hx2 := HSM2.out n7
          rw [hx] at hx2
          obtain ⟨y, hy, he⟩ := Option.map_eq_some_iff.1 hx2.symm
          cases he
          have olen := OLEN.out
          have M1 := HMS28.out.keep (M := fun _ => False) (Below.keeps hB) (fun _ _ => id) (fun _ _ => id)
          obtain ⟨g1, c1, s1, n1, d1, e1, p1, p2, r1⟩ := M1.ms_cell2 hx
          have e1a : ga = some ⟨g1, 0, none⟩ := by injection e1
          subst e1a
          obtain ⟨g2, rfl⟩ : ∃ g2, xa = some ⟨g2, 0, none⟩ := by
           rcases HO28.out.2 with ⟨_, h0⟩ | ⟨g, cap, cur, e, _⟩
           ·omega
           ·injection e with e _ _
            exact ⟨g, e⟩
          have lg2 := (World.ownsRow.lt HO28.out g2 rfl).2
          have q1 := hB.cell (p := ⟨g2, n7 * 3 + 1, none⟩) lg2
          rw [World.ownsRow.cellAt HO28.out (n7 * 3 + 1) (by omega), ptL_at PT n7 1 y hy (by decide)] at q1
          have q2 := hB.cell (p := ⟨g2, n7 * 3 + 2, none⟩) lg2
          rw [World.ownsRow.cellAt HO28.out (n7 * 3 + 2) (by omega), ptL_at PT n7 2 y hy (by decide)] at q2
          simp only [ptL, List.getElem?_cons_zero, List.getElem?_cons_succ] at q1 q2
          have lg1 := World.block_lt_of_cell? _ _ p1
          have lg2' : g2 < wr.heap.size := Nat.lt_of_lt_of_le lg2 hB.size
          have HBB := Lib.hid hB
          have R1 := Lib.hid r1
          have hki : (n7 : Int) < (out.length : Int) := by omega
          have hk0 : (0 : Int) ≤ (n7 : Int) := by omega
          clear M1 hx hx2 hy e1 r1 hB lg2
          go_upto_region 44 with fail
          obtain ⟨wq, hwq⟩ : ∃ wq, wq = wr.alloc (Obj.cells #[.int .i32 y.t, .slice s1 n1 d1] 34) := ⟨_, rfl⟩
          have bq : Below wr.heap.size wr wq := by rw [hwq]; exact (Below.refl _ _).alloc (Nat.le_refl _) _
          have MQ : Blk wq wr.heap.size [.int .i32 y.t, .slice s1 n1 d1] := by rw [hwq]; exact Blk.made wr _ _
          have m0 := MQ.cell 0
          have m1 := MQ.cell 1
          simp only [List.getElem?_cons_zero, List.getElem?_cons_succ] at m0 m1
          have lq := MQ.lt
          have q1 := (bq.cell (p := ⟨g2, n7 * 3 + 1, none⟩) lg2').trans q1
          have q2 := (bq.cell (p := ⟨g2, n7 * 3 + 2, none⟩) lg2').trans q2
          have lg2q : g2 < wq.heap.size := Nat.lt_of_lt_of_le lg2' bq.size
          have cv := fun n => conv_rd (w := wq.drewN n) 32 9 Tryz.underlying32 Tryz.underlying9 (RdB.drewN n (R1.out.below bq))
          have BQ := Lib.hid (HBB.out.trans (bq.mono HBB.out.size))
          rw [← hwq]
          clear hwq bq MQ p1 p2 lg1 lg2'
          go_quiet (fail)
          go_wp2
          refine ⟨⟨n7 + 1, by omega, by go_num, ?_⟩, by simp [intOf]; omega⟩
          exact bel_drewN _ BQ.out
         ·obtain rfl : n7 = out.length := by omega
          go_wp2
          go_ret
          exact ⟨rfl, HB28.out.trans (hB.mono HB28.out.size)⟩
     ·have hne : (e9 == 0) = false := by simpa using he9
      clear he9
      go_wp2
      go_ret
      exact ⟨rfl, BW9.out.trans (B10.out.mono BW9.out.size)⟩
set_option maxHeartbeats 1000000 in
theorem mends_early (t0 : Option Addr) (tn tc : Nat) (sa : Option Addr) (sn sc : Nat) (w : World) (h : 5 < tn ∨ 200 < sn) :
  Calls Tryz.prog 6 #[.slice t0 tn tc, .slice sa sn sc] w fun e w' => e = .returned (.bool true) ∧ Below w.heap.size w w' := by
 by_cases h1 : (5 : Int) < (tn : Int)
 ·go_enter Tryz.func6, Tryz.ntmps6
  go_wp2_with fail
  refine (fixed10_any _).mono ?_
  rintro e w1 ⟨rfl, b1⟩
  go_wp2
  go_ret
  exact ⟨rfl, b1⟩
 ·have h2 : (200 : Int) < (sn : Int) := by omega
  clear h
  go_enter Tryz.func6, Tryz.ntmps6
  go_wp2_with fail
  refine (fixed10_any _).mono ?_
  rintro e w1 ⟨rfl, b1⟩
  go_wp2
  go_ret
  exact ⟨rfl, b1⟩
theorem mends_said (v : Value) (L : List LsV) (pv : Value) (pk : List Int) (w : World) (h : RdR w v 1 (L.map LsV.cs)) (hL : ∀ x ∈ L, LsV.Ok w x) (rp : RdB w pv pk) (bp : IsB pk) :
  Calls Tryz.prog 6 #[v, pv] w fun e w' => e = .returned (.bool true) ∧ Below w.heap.size w w' := by
 obtain ⟨sa, sn, sc, rfl⟩ := rp.isSl
 obtain ⟨t0, tc, rfl⟩ : ∃ t0 tc, v = .slice t0 L.length tc := by
  rcases h with ⟨rfl, h2⟩ | ⟨a, cap, rfl, h2, _⟩ | ⟨b, off, cap, rfl, _⟩
  ·have : L.length = 0 := by have := congrArg List.length h2; simpa using this
   exact ⟨none, 0, by rw [this]⟩
  ·have : L.length = 0 := by have := congrArg List.length h2; simpa using this
   exact ⟨some a, cap, by rw [this]⟩
  ·exact ⟨_, _, by rw [List.length_map]⟩
 by_cases h1 : 5 < L.length ∨ 200 < sn
 ·exact mends_early t0 L.length tc sa sn sc w h1
 ·exact mends_main t0 tc L sa sn sc pk w h hL (by omega) rp bp (by omega)
end Go.Proofs.YtggjhleomocojaaGreat
