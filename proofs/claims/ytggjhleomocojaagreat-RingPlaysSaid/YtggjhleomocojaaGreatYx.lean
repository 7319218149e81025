/- The walk of the law RingPlays. Conditions: as each says. -/
import Derived.Test.YtggjhleomocojaaGreatFt
namespace Go.Proofs.YtggjhleomocojaaGreat
set_option maxRecDepth 100000
open Go.RowKit
set_option linter.unusedVariables false
set_option linter.unusedSimpArgs false
theorem flinfo : (Tryz.prog.info? 63).map (fun i => (i.zero, i.size, i.bytes)) = some (some (.pointer none), 1, 8) := by kernel_rfl
theorem rowL_at {w : World} {t0 : Option Addr} {tc : Nat} {L : List LsV} (hr : RdR w (.slice t0 L.length tc) 1 (L.map LsV.cs)) {k : Nat} {x : LsV} (hx : L[k]? = some x) : ∃ bk off, t0 = some ⟨bk, off, none⟩ ∧ w.cell? ⟨bk, off + k, none⟩ = some x.s ∧ L.length ≤ tc ∧ tc ≤ maxLen := by
 have hkl := (List.getElem?_eq_some_iff.1 hx).1
 rcases hr with ⟨e, e2⟩ | ⟨_, _, e, e2, _⟩ | ⟨bk, off, cap, e, h1, h2, hc⟩
 ·have : L = [] := by simpa using e2
  rw [this] at hkl
  exact absurd hkl (Nat.not_lt_zero _)
 ·have : L = [] := by simpa using e2
  rw [this] at hkl
  exact absurd hkl (Nat.not_lt_zero _)
 ·rw [List.length_map] at e h1
  cases e
  exact ⟨bk, off, rfl, by have := hc k [x.s] (by rw [List.getElem?_map, hx]; rfl) 0 x.s rfl; simpa using this, h1, h2⟩
theorem filStart_newP {l : List (Int × List Int)} (h : l.length ≤ 12) {s : Nat} {T : Int} (hT : 0 ≤ T) : filC.start (⟨64, s, l.take 64, max T 0, [], []⟩ : FilT) = filNew0 (filT0 64 s l T) := by
 rw [List.take_of_length_le (by omega), show max T 0 = T by omega]
 rfl
theorem draStart_64 {s : Nat} (hs : s = 64 ∨ s = 128 ∨ s = 256 ∨ s = 512) (m : Int) (hm : m = 3 ∨ m = 9) : draC.start (⟨64, s, min 64 64, m, []⟩ : DraT) = DraT.mo ⟨64, s, 64, m, []⟩ := dra_stay ⟨64, s, 64, m, []⟩ (by rcases hs with rfl | rfl | rfl | rfl <;> rcases hm with rfl | rfl <;> decide +kernel) _
theorem used0 {w : World} {g off n cap : Nat} {l : List Int} (hm : cap ≤ maxLen) (hn : l.length = n) (hc : n ≤ cap) (h : ∀ i, i < n → w.cell? ⟨g, off + i, none⟩ = some (.int .u8 (gB l i))) (hb : IsB l) {s : Nat} (hs : s = 64 ∨ s = 128 ∨ s = 256 ∨ s = 512) (hend : 64 + s + 24 ≤ l.length) (he : rdN l (64 + s) 8 = rdN l (64 + s + 16) 8) :
  Calls Tryz.prog 28 #[.slice (some ⟨g, off, none⟩) n cap, .agg #[.int .i64 64, .int .i64 s]] w fun e w' => e = .returned (.tuple #[.int .i64 0, .int .i64 0]) ∧ Below w.heap.size w w' := by
 have e1 : ((64 : Int) + (s : Int)).toNat = 64 + s := by omega
 have e2 : ((64 : Int) + (s : Int) + 16).toNat = 64 + s + 16 := by omega
 refine (used_any hm hn hc h hb 64 s (by rcases hs with rfl | rfl | rfl | rfl <;> decide +kernel) (by omega) (T := rdN l (64 + s) 8) (H := rdN l (64 + s) 8) (D := 0) (all := 0) (F := IntKind.i64.wrap (rdN l (64 + s) 8)) (by rw [e1]) (by rw [e2]; exact he.symm) (by rw [Int.sub_self]; rfl) rfl rfl (by decide) (by omega) 0 (by decide)).mono ?_
 rintro e w' ⟨rfl, b⟩
 exact ⟨rfl, b⟩
theorem srt_at {l : List Pt} (h : Srt l) {k : Nat} {x y : Pt} (hx : l[k]? = some x) (hy : l[k + 1]? = some y) : x.p < y.p := by
 obtain ⟨h1, rfl⟩ := List.getElem?_eq_some_iff.1 hx
 obtain ⟨h2, rfl⟩ := List.getElem?_eq_some_iff.1 hy
 exact List.pairwise_iff_getElem.1 h k (k + 1) h1 h2 (Nat.lt_succ_self k)
theorem rdls_src {w w' : World} {t0 : Option Addr} {tc : Nat} {L : List LsV} (hr : RdR w (.slice t0 L.length tc) 1 (L.map LsV.cs)) (hL : ∀ x ∈ L, LsV.Ok w x) (b : Below w.heap.size w w') : RdLs w' (.slice t0 L.length tc) (L.map (·.l)) := by
 rcases hr.below b with ⟨e, e2⟩ | ⟨a, cap, e, e2, e3⟩ | ⟨bk, off, cap, e, h1, h2, hc⟩
 ·have : L = [] := by simpa using e2
  subst this
  exact .inl ⟨rfl, _, _, _, rfl⟩
 ·have : L = [] := by simpa using e2
  subst this
  exact .inl ⟨rfl, _, _, _, rfl⟩
 ·rw [List.length_map] at e h1
  refine .inr ⟨bk, off, cap, by rw [List.length_map]; exact e, by rw [List.length_map]; exact h1, h2, fun i l hi => ?_⟩
  rw [List.getElem?_map] at hi
  obtain ⟨x, hx, rfl⟩ := Option.map_eq_some_iff.1 hi
  have := hc i [x.s] (by rw [List.getElem?_map, hx]; rfl) 0 x.s rfl
  exact ⟨x.s, by simpa using this, (hL x (List.mem_of_getElem? hx)).r.up b⟩
set_option maxHeartbeats 8000000 in
theorem plays_main (bits tries : Int) (hbits : 0 ≤ bits ∧ bits ≤ 255) (htries : 0 ≤ tries ∧ tries ≤ 255) (t0 : Option Addr) (tc : Nat) (Lb : List LsV) (sa : Option Addr) (sn sc : Nat) (pk : List Int) (w : World) (hr : RdR w (.slice t0 Lb.length tc) 1 (Lb.map LsV.cs)) (hL : ∀ x ∈ Lb, LsV.Ok w x) (h5 : Lb.length ≤ 5) (rp : RdB w (.slice sa sn sc) pk) (bp : IsB pk) (h250 : sn ≤ 250) :
  Calls Tryz.prog 5 #[.int .u8 bits, .slice t0 Lb.length tc, .int .u8 tries, .slice sa sn sc] w fun e w' => e = .returned (.bool true) ∧ Below w.heap.size w w' := by
 have HR := Lib.hid hr
 have HL := Lib.hid hL
 have RP := Lib.hid rp
 have BP := Lib.hid bp
 have HSN := Lib.hid (rd_len rp)
 have hi8 : ¬ (5 : Int) < (Lb.length : Int) := by omega
 have hi250 : ¬ (250 : Int) < (sn : Int) := by omega
 obtain ⟨T, htr⟩ : ∃ T, tries.tmod 40 = T := ⟨_, rfl⟩
 have htr2 := Int.tmod_eq_emod_of_nonneg (b := 40) htries.1
 have hT0 : 0 ≤ T := by omega
 have hT39 : T ≤ 39 := by omega
 clear hr hL rp bp htr2
 go_enter Tryz.func5, Tryz.ntmps5
 go_wp2_with fail
 refine (fixed10_any _).mono ?_
 rintro e w1 ⟨rfl, b1⟩
 have z1 := b1.size
 have B1 := Lib.hid b1
 clear b1
 go_upto_region 5 with fail
 go_cut [9] from 38 to 41 (fun rp wx => ∃ s : Nat, rp = .pointer (some ⟨w1.heap.size, 0, none⟩) ∧ (s = 64 ∨ s = 128 ∨ s = 256 ∨ s = 512) ∧ Blk wx w1.heap.size [.int .i64 64, .int .i64 s] ∧ Below w1.heap.size w1 wx ∧ w1.heap.size < wx.heap.size)
 case first =>
  have ht : bits.tmod 4 = bits % 4 := Int.tmod_eq_emod_of_nonneg hbits.1
  have hc : bits % 4 = 0 ∨ bits % 4 = 1 ∨ bits % 4 = 2 ∨ bits % 4 = 3 := by omega
  rcases hc with hc | hc | hc | hc
  ·rw [hc] at ht
   go_wp2_with fail
   go_meet
   exact ⟨64, rfl, by omega, Blk.made w1 #[.int .i64 64, .int .i64 64] _, (Below.refl _ _).alloc (Nat.le_refl _) _, by simp⟩
  ·rw [hc] at ht
   go_wp2_with fail
   go_meet
   exact ⟨128, rfl, by omega, Blk.made w1 #[.int .i64 64, .int .i64 128] _, (Below.refl _ _).alloc (Nat.le_refl _) _, by simp⟩
  ·rw [hc] at ht
   go_wp2_with fail
   go_meet
   exact ⟨256, rfl, by omega, Blk.made w1 #[.int .i64 64, .int .i64 256] _, (Below.refl _ _).alloc (Nat.le_refl _) _, by simp⟩
  ·rw [hc] at ht
   go_wp2_with fail
   go_meet
   exact ⟨512, rfl, by omega, Blk.made w1 #[.int .i64 64, .int .i64 512] _, (Below.refl _ _).alloc (Nat.le_refl _) _, by simp⟩
 case rest =>
  obtain ⟨s, rfl, hs, hB, bb, lb⟩ := hcut
  obtain ⟨i0, hi, hz0, hz1, hz2⟩ := info_parts flinfo
  obtain ⟨j0, hj, hy0, hy1, hy2⟩ := info_parts mcinfoO
  have X2 := Lib.hid hB
  have B2 := Lib.hid (B1.out.trans (bb.mono z1))
  have z2 := bb.size
  have HS := Lib.hid hs
  have hs512 : s ≤ 512 := by omega
  have hs64 : 64 ≤ s := by omega
  clear hB bb hs
  go_wp2_with fail
  refine (mNew_at 1024 128 _ (by decide) (by decide) (by decide)).mono ?_
  rintro e w3 ⟨p, c, rfl, hb3, hp, hc, b3⟩
  have z3 := b3.size
  have HB3 := Lib.hid hb3
  have X3 := Lib.hid (X2.out.below b3 (by omega))
  have B3 := Lib.hid (B2.out.trans (b3.mono (by omega)))
  have lpc := hb3.hd.lt
  have lcc := Blk.lt hb3.wd
  have lx3 : w1.heap.size < w3.heap.size := by omega
  clear hb3 b3 X2 B2
  go_upto_region 9 with fail
  obtain ⟨wk, hwk⟩ : ∃ wk, wk = w3.alloc (.cells #[] 66) := ⟨_, rfl⟩
  have bk0 : Below w3.heap.size w3 wk := by rw [hwk]; exact (Below.refl _ _).alloc (Nat.le_refl _) _
  have MK := Lib.hid (show wk.ownsRow 0 66 1 (.slice (some ⟨w3.heap.size, 0, none⟩) 0 0) 0 [] by rw [hwk]; exact own_emptyP w3 _ 1)
  have BK := Lib.hid bk0
  have zk := bk0.size
  rw [← hwk]
  clear hwk bk0
  go_wp2_with fail
  go_loopw [12, 13, 49] (fun pv mv i wr => ∃ (k : Nat) (κ : Nat → Kd) (ss : List FqS), k ≤ Lb.length ∧ i = .int .i64 k ∧ FilsTo w3 wr pv κ ss ∧ ss.map (·.2) = filsP s T (Lb.take k) ∧ wr.ownsRow 0 66 1 mv ss.length (ss.map flI) ∧ (∀ g, mv.ownBlock = some g → w3.heap.size ≤ g ∧ κ g = .no ∧ pv.ownBlock ≠ some g) ∧ (∀ j, j < k → ∀ x, Lb[j]? = some x → fewB x.l = true)) (fun _ _ i _ => Lb.length - (intOf i).toNat)
  case atStart => exact ⟨0, fun _ => .no, [], by omega, rfl, FilsTo.start w3 wk BK.out, rfl, MK.out, (fun g h => by cases h; exact ⟨Nat.le_refl _, rfl, nofun⟩), fun j h => absurd h (Nat.not_lt_zero _)⟩
  case round =>
   obtain ⟨k, κ, ss, hk, rfl, hP, hEQ, hM, hMo, hsm⟩ := hrel
   have HP := Lib.hid hP
   have HM := Lib.hid hM
   have HMO := Lib.hid hMo
   have HSM := Lib.hid hsm
   have HEQ := Lib.hid hEQ
   have hbl := B3.out.trans (hP.bel.mono (by omega))
   have hss : ss.length = k := by
    have := congrArg List.length hEQ
    unfold filsP at this
    simpa [Nat.min_eq_left hk] using this
   have HSS := Lib.hid hss
   have HBL := Lib.hid hbl
   have zr := hP.bel.size
   have XR := Lib.hid (X3.out.below hP.bel lx3)
   obtain ⟨ma, ml, mc, rfl⟩ := own_isSl hM
   obtain ⟨oa, ol, oc, rfl⟩ := own_isSl hP.ow
   have hol : ol = ss.length := by
    rcases hP.ow.2 with ⟨e, h0⟩ | ⟨g, cap, cur, e, _⟩
    ·cases e
     exact h0.symm
    ·cases e
     rfl
   have hml : ml = ss.length := by
    rcases hM.2 with ⟨e, h0⟩ | ⟨g, cap, cur, e, _⟩
    ·cases e
     exact h0.symm
    ·cases e
     rfl
   subst hol hml
   clear hP hM hMo hsm hbl hss hEQ
   by_cases hkl : k < Lb.length
   ·as_aux_lemma =>
    obtain ⟨x, hx⟩ : ∃ x, Lb[k]? = some x := ⟨_, List.getElem?_eq_getElem hkl⟩
    have HXK := Lib.hid hx
    have hxm := HL.out x (List.mem_of_getElem? hx)
    obtain ⟨bk, off, rfl, hcell, hc1, hc2⟩ := rowL_at HR.out hx
    obtain ⟨⟨xa, xn, xc, hsv⟩, hrd, hib⟩ := hxm
    rw [hsv] at hcell hrd
    have hcr := (HBL.out.cell (p := ⟨bk, off + k, none⟩) (World.block_lt_of_cell? w _ hcell)).trans hcell
    have RX := Lib.hid (hrd.below HBL.out)
    have HIB := Lib.hid hib
    have y0 := XR.out.cell 0
    have y1 := XR.out.cell 1
    have lx := XR.out.lt
    simp only [List.getElem?_cons_zero, List.getElem?_cons_succ] at y0 y1
    have hki : (k : Int) < (Lb.length : Int) := by omega
    clear hcell hrd hib hsv hx
    go_wp2_with fail
    refine (few_any RX.out).mono ?_
    rintro e wf ⟨rfl, bf⟩
    have BF := Lib.hid bf
    have zf := bf.size
    clear bf
    cases hfw : fewB x.l with
    | false =>
     go_wp2
     go_ret
     exact ⟨rfl, HBL.out.trans (BF.out.mono HBL.out.size)⟩
    | true =>
    have HFB := Lib.hid hfw
    have HFT := Lib.hid (fewB_true hfw)
    have RXF := Lib.hid (RX.out.below BF.out)
    have XRF := Lib.hid (XR.out.below BF.out XR.out.lt)
    have HP := Lib.hid (HP.out.below BF.out)
    have HM := Lib.hid (ownsRow_keep HM.out (Below.keeps (M := fun _ => False) BF.out) (fun _ _ => id))
    have HBL := Lib.hid (HBL.out.trans (BF.out.mono HBL.out.size))
    have y0 := XRF.out.cell 0
    have y1 := XRF.out.cell 1
    have lx := XRF.out.lt
    simp only [List.getElem?_cons_zero, List.getElem?_cons_succ] at y0 y1
    clear hfw hcr
    go_wp2_with fail
    refine (filNew_any 64 s T _ x.l _ _ RXF.out (fun y hy => ⟨(HIB.out y hy).2, by have := HFT.out.1 y hy; omega⟩) (by decide) (by decide) (by omega) (by omega) (by omega)).mono ?_
    rintro e w4 ⟨q, F, rfl, hq, hinv, hFw, b4⟩
    rw [filStart_newP HFT.out.2 hT0] at hinv
    unfold ptr
    have HF4 := Lib.hid hinv
    have HFW := Lib.hid hFw
    have B4 := Lib.hid b4
    have s4 := b4.size
    have b5 : Below w4.heap.size w4 (w4.alloc (Obj.cells #[.pointer (some ⟨q, 0, none⟩)] 63)) := (Below.refl _ _).alloc (Nat.le_refl _) _
    have OO := Lib.hid (((HP.out.below b4).below b5).ow)
    have NB := Lib.hid (show Blk (w4.alloc (Obj.cells #[.pointer (some ⟨q, 0, none⟩)] 63)) w4.heap.size [.pointer (some ⟨q, 0, none⟩)] from Blk.made w4 _ _)
    have B5 := Lib.hid b5
    clear hinv hFw b4 b5 y0 y1
    go_wp2_with (refine list_app1 rfl (.tmp 62) (.tmp 64) 81 63 rfl Tryz.underlying81 hi hz0 hz1 hz2 rfl (by decide) (.slice oa ss.length oc) ss.length (ss.map flP) rfl OO.out w4.heap.size [.pointer (some ⟨q, 0, none⟩)] rfl NB.out rfl (by simp [Value.oneCell']) (by have := HSS.out; omega) (by have := HSS.out; unfold maxLen; omega) ?_)
    intro v5 w5 o5 g5 e5
    obtain ⟨za, zl, zc, rfl⟩ := own_isSl o5
    have k5 : Keep (fun i => (Value.slice oa ss.length oc).ownBlock = some i) w4 w5 := (Below.keeps B5.out).trans (grown_keep g5)
    have e5' : (Value.slice za zl zc).ownBlock = (Value.slice oa ss.length oc).ownBlock ∨ ∃ i, (Value.slice za zl zc).ownBlock = some i ∧ w4.heap.size ≤ i := e5.imp id fun h => ⟨_, h, by first | omega | (rw [World.size_alloc]; omega)⟩
    obtain ⟨κ', hκ1, hκ2, hP'⟩ := HP.out.next2 B4.out HF4.out HFW.out k5 o5 e5'
    have HP' := Lib.hid hP'
    have K5 := Lib.hid k5
    have HK1 := Lib.hid hκ1
    have HK2 := Lib.hid hκ2
    have E5 := Lib.hid e5'
    have s5 := k5.size
    have PLT := Lib.hid (World.ownsRow.lt HP.out.ow)
    have MLT := Lib.hid (World.ownsRow.lt HM.out)
    have HM5 := Lib.hid (ownsRow_keep (ownsRow_keep HM.out (Below.keeps (M := fun _ => False) B4.out) (fun _ _ => id)) k5 (fun i hi h => (HMO.out i hi).2.2 h))
    clear hP' o5 g5 e5 e5' k5 hκ1 hκ2 NB OO
    have b6 : Below w5.heap.size w5 (w5.alloc (Obj.cells #[.iface 63 (.pointer (some ⟨q, 0, none⟩))] 66)) := (Below.refl _ _).alloc (Nat.le_refl _) _
    have OO := Lib.hid (ownsRow_keep HM5.out (Below.keeps (M := fun _ => False) b6) (fun _ _ => id))
    have NB := Lib.hid (show Blk (w5.alloc (Obj.cells #[.iface 63 (.pointer (some ⟨q, 0, none⟩))] 66)) w5.heap.size [.iface 63 (.pointer (some ⟨q, 0, none⟩))] from Blk.made w5 _ _)
    have B6 := Lib.hid b6
    clear b6
    go_wp2_with (refine list_app1 rfl (.tmp 66) (.tmp 69) 39 66 rfl Tryz.underlying39 hj hy0 hy1 hy2 rfl (by decide) (.slice ma ss.length mc) ss.length (ss.map flI) rfl OO.out w5.heap.size [.iface 63 (.pointer (some ⟨q, 0, none⟩))] rfl NB.out rfl (by simp [Value.oneCell']) (by have := HSS.out; omega) (by have := HSS.out; unfold maxLen; omega) ?_)
    intro v7 w7 o7 g7 e7
    obtain ⟨ya, yl, yc, rfl⟩ := own_isSl o7
    have k7 : Keep (fun i => (Value.slice ma ss.length mc).ownBlock = some i) w5 w7 := (Below.keeps B6.out).trans (grown_keep g7)
    have e7' : (Value.slice ya yl yc).ownBlock = (Value.slice ma ss.length mc).ownBlock ∨ ∃ i, (Value.slice ya yl yc).ownBlock = some i ∧ w5.heap.size ≤ i := e7.imp id fun h => ⟨_, h, by first | omega | (rw [World.size_alloc]; omega)⟩
    have HO7 := Lib.hid o7
    have HM7 : Hid (∀ i, (Value.slice ma ss.length mc).ownBlock = some i → (κ' i = .no ∧ w3.heap.size ≤ i) ∧ (Value.slice za zl zc).ownBlock ≠ some i) := Lib.hid (fun i hi => by
     have h1 := HMO.out i hi
     have h2 := (MLT.out i hi).2
     refine ⟨⟨(HK1.out i h2).trans h1.2.1, h1.1⟩, fun h => ?_⟩
     rcases E5.out with e | ⟨i', e, hi'⟩
     ·rw [e] at h; exact h1.2.2 h
     ·rw [e] at h; cases h; omega)
    have HP7 := Lib.hid (HP'.out.beside k7 (fun i h => (HM7.out i h).1) (fun i h => (HM7.out i h).2))
    have E7 := Lib.hid e7'
    have ZLT := Lib.hid (World.ownsRow.lt HP'.out.ow)
    clear o7 g7 e7 e7' k7
    go_wp2
    refine ⟨⟨k + 1, κ', _, by omega, by go_num, HP7.out, ?_, ?_, fun g hg => ?_, fun j hj y hy => ?_⟩, by simp [intOf]; omega⟩
    ·rw [List.map_append, HEQ.out]
     have e0 : Lb.take (k + 1) = Lb.take k ++ [x] := by rw [List.take_add_one, HXK.out]; rfl
     rw [e0]
     unfold filsP
     rw [List.map_append]
     rfl
    ·rw [List.length_append, List.map_append]
     exact HO7.out
    ·rcases E7.out with e | ⟨i, e, hi⟩
     ·rw [e] at hg
      have := HM7.out g hg
      exact ⟨this.1.2, this.1.1, this.2⟩
     ·rw [e] at hg
      cases hg
      refine ⟨by omega, HK2.out _ (by omega), fun h => ?_⟩
      have := (ZLT.out _ h).2
      omega
    ·by_cases hjk : j < k
     ·exact HSM.out j hjk y hy
     ·obtain rfl : j = k := by omega
      have := HXK.out
      rw [hy] at this
      cases this
      exact HFB.out
   ·obtain rfl : k = Lb.length := by omega
    have hni : ¬ (Lb.length : Int) < (Lb.length : Int) := by omega
    rw [List.take_of_length_le (Nat.le_refl _)] at HEQ
    obtain ⟨qs, hmd⟩ := HP.out.md
    have y0 := XR.out.cell 0
    have y1 := XR.out.cell 1
    have lx := XR.out.lt
    simp only [List.getElem?_cons_zero, List.getElem?_cons_succ] at y0 y1
    have HMD := Lib.hid hmd
    have MLT := Lib.hid (World.ownsRow.lt HM.out)
    clear hmd
    go_wp2_with fail
    refine (draNew_any 64 s 64 3 wr (by decide) (by decide) (by omega) (by omega)).mono ?_
    rintro e w4 ⟨qd, Fd, rfl, hqd, hinv, hFd, b4⟩
    rw [draStart_64 HS.out 3 (.inl rfl)] at hinv
    have HID := Lib.hid (show draFam.inv w4 Fd qd (draP s) from hinv)
    have HFD := Lib.hid hFd
    have B4 := Lib.hid b4
    have z4 := b4.size
    have b5 : Below w4.heap.size w4 (w4.alloc (Obj.cells #[.iface 61 (.pointer (some ⟨qd, 0, none⟩))] 66)) := (Below.refl _ _).alloc (Nat.le_refl _) _
    have OO := Lib.hid (ownsRow_keep HM.out (Below.keeps (M := fun _ => False) (b4.trans (b5.mono z4))) (fun _ _ => id))
    have NB := Lib.hid (show Blk (w4.alloc (Obj.cells #[.iface 61 (.pointer (some ⟨qd, 0, none⟩))] 66)) w4.heap.size [.iface 61 (.pointer (some ⟨qd, 0, none⟩))] from Blk.made w4 _ _)
    have B5 := Lib.hid b5
    unfold ptr
    clear hinv hFd b4 b5 y0 y1
    go_wp2_with (refine list_app1 rfl (.tmp 75) (.tmp 78) 39 66 rfl Tryz.underlying39 hj hy0 hy1 hy2 rfl (by decide) (.slice ma ss.length mc) ss.length (ss.map flI) rfl OO.out w4.heap.size [.iface 61 (.pointer (some ⟨qd, 0, none⟩))] rfl NB.out rfl (by simp [Value.oneCell']) (by have := HSS.out; omega) (by have := HSS.out; unfold maxLen; omega) ?_)
    intro v5 w5 o5 g5 e5
    have k5 : Keep (fun i => (Value.slice ma ss.length mc).ownBlock = some i) w4 w5 := (Below.keeps B5.out).trans (grown_keep g5)
    have z5 := k5.size
    have O5 := Lib.hid o5
    have K5 := Lib.hid k5
    have hmo : ∀ g, (Value.slice ma ss.length mc).ownBlock = some g → w3.heap.size ≤ g ∧ κ g = .no ∧ g < wr.heap.size := fun g hg => ⟨(HMO.out g hg).1, (HMO.out g hg).2.1, (MLT.out g hg).2⟩
    have KR5 := Lib.hid (show Keep (fun i => (Value.slice ma ss.length mc).ownBlock = some i) wr w5 from (Below.keeps B4.out).trans k5)
    have HBR := Lib.hid (HB3.out.belows HMD.out.bel)
    have HB5 := Lib.hid (HBR.out.keep KR5.out (fun h => by have := (hmo _ h).1; omega) (fun h => by have := (hmo _ h).1; omega))
    have HMOH := Lib.hid hmo
    have zw3 := HMD.out.bel.size
    clear o5 g5 e5 k5 hmo
    go_wp2_with fail
    refine (plNew (w0 := w3) (p := p) (c := c) (cnt := 0) (bs := List.replicate (8 * 128) 0) HMD.out B4.out HID.out HFD.out HMOH.out K5.out O5.out HB5.out (by omega) (by omega) (by have := HSS.out; omega)).mono ?_
    rintro e wm ⟨W, κm, av, ab, rfl, hW, hκ, hWs, b6⟩
    have z6 := b6.size
    obtain ⟨LL, hLL⟩ : ∃ LL : List PlQS, LL = (ss.map fun x => ((x.1, Sum.inl x.2) : PlQS)) ++ [(qd, Sum.inr (draP s))] := ⟨_, rfl⟩
    rw [← hLL] at hW
    have hKs : LL.map (·.1) = ss.map (·.1) ++ [qd] := by rw [hLL, List.map_append, List.map_map]; rfl
    have HKL := Lib.hid (show (LL.map (·.1)).length = ss.length + 1 by rw [hKs, List.length_append, List.length_map]; rfl)
    obtain ⟨P0, G0, hq0⟩ := plStart HS.out hT0 hT39 h5 (fun x hx => (HL.out x hx).b) (fun x hx => by
     obtain ⟨j, hj⟩ := List.getElem?_of_mem hx
     exact HSM.out j (List.getElem?_eq_some_iff.1 hj).1 x hj) (L := LL) (by
     rw [hLL, List.map_append, List.map_map, ← HEQ.out, List.map_map]
     rfl)
    have HST := Lib.hid (show PlAt 64 s (Lb.map (·.l)) wm wm κm κm W p c av nilSl ab (LL.map (·.1)) 0 P0 G0 [] 0 0 [] 0 (filsP s T Lb) (draP s) LL ⟨List.replicate (8 * 128) 0, 0, actsQ (σ := PlQS) LL, 0, []⟩ from ⟨hW, hq0, fun _ _ => rfl, Below.keeps (Below.refl _ _), Int.le_refl 0, Int.le_refl 0, Nat.le_refl _⟩)
    have HKS := Lib.hid hKs
    have hno : ∀ i, i < w3.heap.size → i ≠ p → i ≠ c → κm i = .no := fun i h1 h2 h3 => (hκ i (by omega)).trans (kdX_no HMD.out h1 h2 h3)
    have HNO := Lib.hid hno
    have HNW := Lib.hid (show ∀ i, i < w.heap.size → κm i = .no from fun i hi => hno i (by have := B3.out.size; omega) (by omega) (by omega))
    have HX1 := Lib.hid (show κm w1.heap.size = .no from hno _ lx3 (by omega) (by omega))
    have HPO := Lib.hid (show wm.ownsRow 0 63 1 (.slice oa ss.length oc) ss.length (ss.map flP) from ownsRow_keep (ownsRow_keep HP.out.ow KR5.out (fun i hi h => (HMO.out i h).2.2 hi)) (Below.keeps (M := fun _ => False) b6) (fun _ _ => id))
    have HPN := Lib.hid (show ∀ g, (Value.slice oa ss.length oc).ownBlock = some g → κm g = .no ∧ w3.heap.size ≤ g ∧ g < wm.heap.size from fun g hg => by
     have h1 := HP.out.om g hg
     have h2 := (World.ownsRow.lt (HP.out.ow) g hg).2
     refine ⟨?_, h1.1, by have := KR5.out.size; omega⟩
     rw [hκ g (by omega)]
     unfold kdX
     rw [if_neg (by omega)]
     exact h1.2)
    have BM := Lib.hid (show Below w.heap.size w wm from (HBL.out.trans (KR5.out.below (B := w.heap.size) HBL.out.size (fun i hi h => by have := (HMOH.out i h).1; have := B3.out.size; omega))).trans (b6.mono (by have := HBL.out.size; have := KR5.out.size; omega)))
    have XM := Lib.hid (show Blk wm w1.heap.size [.int .i64 64, .int .i64 s] from (XR.out.keep KR5.out (fun h => by have := (HMOH.out _ h).1; omega)).below b6 (by have := XR.out.lt; have := KR5.out.size; omega))
    have H12 := Lib.hid (show ∀ l ∈ Lb.map (·.l), l.length ≤ 12 from fun l hl => by obtain ⟨y, hy, rfl⟩ := List.mem_map.1 hl; obtain ⟨j, hj⟩ := List.getElem?_of_mem hy; exact (fewB_true (HSM.out j (List.getElem?_eq_some_iff.1 hj).1 y hj)).2)
    have hs8 : ss.length ≤ 8 := by have := HSS.out; omega
    have hzm : wr.heap.size ≤ wm.heap.size := by have := KR5.out.size; omega
    clear hW hκ hno hq0 hLL HM HMO HSM HP XR HB3 HBL z6 b6 HID HFD B4 OO NB B5 O5 K5 HMOH KR5 HBR HB5 HMD MLT hKs HEQ
    go_wp2_with fail
    go_loopw [83] (fun i wl => ∃ (n : Nat) (κ1 : Nat → Kd) (tv : Value) (P : List PutM) (G : List (Nat × Nat)) (A : List (Slot × Nat)) (kk H : Nat) (F : List (List Int)) (k0 : Nat) (FL : List (Option PutM × FilT)) (d : Option GetM × DraT) (L : List PlQS) (S : SW plQ.M.σ), n ≤ sn ∧ i = .int .i64 n ∧ PlAt 64 s (Lb.map (·.l)) wm wl κm κ1 W p c av tv ab (LL.map (·.1)) n P G A kk H F k0 FL d L S) (fun i _ => sn - (intOf i).toNat)
    case atStart => exact ⟨0, _, _, _, _, _, _, _, _, _, _, _, _, _, by omega, rfl, HST.out⟩
    case round =>
     obtain ⟨n, κ1, tv, P, G, A, kk, H, F, k0, FL, d, L, S, hn, rfl, hO⟩ := hrel
     have HO := Lib.hid hO
     have hBL : Below w.heap.size w wr := BM.out.trans (hO.kp.below (B := w.heap.size) BM.out.size (fun i hi h => h (HNW.out i hi)))
     have HBL := Lib.hid hBL
     have HXR := Lib.hid (XM.out.keep hO.kp (fun h => h HX1.out))
     have hz := hO.kp.size
     clear hO hBL
     by_cases hnl : n < sn
     ·as_aux_lemma =>
      have hni : (n : Int) < (sn : Int) := by omega
      obtain ⟨bk, off, rfl, hcell, hc1, hc2⟩ := rdB_at RP.out (k := n) (by have := HSN.out; omega)
      have hcr := (HBL.out.cell (p := ⟨bk, off + n, none⟩) (World.block_lt_of_cell? w _ hcell)).trans hcell
      have hxb := BP.out.getD n
      obtain ⟨x, hx⟩ : ∃ x, x = gB pk n := ⟨_, rfl⟩
      rw [← hx] at hcr hxb
      obtain ⟨j, hj⟩ : ∃ j : Nat, x % ((ss.length : Int) + 1) = j := ⟨(x % ((ss.length : Int) + 1)).toNat, by have := Int.emod_nonneg x (show (ss.length : Int) + 1 ≠ 0 by omega); omega⟩
      have hjs : j ≤ ss.length := by have := Int.emod_lt_of_pos x (show 0 < (ss.length : Int) + 1 by omega); omega
      have hjt : x.tmod ((ss.length : Int) + 1) = (j : Int) := by rw [Int.tmod_eq_emod_of_nonneg hxb.1]; exact hj
      have W1 : IntKind.i64.wrap ((ss.length : Int) + 1) = (ss.length : Int) + 1 := IntWalk.i64_in _ ⟨by omega, by omega⟩
      have W2 : IntKind.i64.wrap (j : Int) = (j : Int) := IntWalk.i64_in _ ⟨by omega, by omega⟩
      have hz1' : ¬ ((ss.length : Int) + 1 = 0) := by omega
      clear hcell hj hx
      go_wp2_with fail
      refine (wPick_step HO.out.wo j 0 HO.out.c0 (by have := HO.out.c1; omega) (by have := HO.out.tr; omega)).mono ?_
      rintro e w' hp
      obtain ⟨κ2, tv2, P2, G2, A2, kk2, H2, F2, k02, FL2, d2, L2, hO2⟩ := HO.out.pick (j := j) (by have := HKL.out; omega) hp
      obtain ⟨_, _, _, _, _, _, rfl, _⟩ := hp
      have HO2 := Lib.hid hO2
      clear hO2
      go_wp2
      exact ⟨⟨n + 1, κ2, tv2, P2, G2, A2, kk2, H2, F2, k02, FL2, d2, L2, _, by omega, by go_num, HO2.out⟩, by simp [intOf]; omega⟩
     ·obtain rfl : n = sn := by omega
      have hni : ¬ (n : Int) < (n : Int) := by omega
      clear hnl HST
      go_wp2_with fail
      refine (wRobin_any HO.out.wo 200000 (by decide) HO.out.c0 (by have := HO.out.c1; omega) (by have := HO.out.tr; omega) (by have h1 := HO.out.len.2; have h2 := HKL.out; omega)).mono ?_
      rintro e w8 hp
      obtain ⟨κ2, tv2, P2, G2, A2, kk2, H2, F2, k02, FL2, d2, L2, hW2, hq2, hfl2, hdn2, hkd2, hkp2⟩ := HO.out.robin hp
      obtain ⟨rfl, _⟩ := hp
      obtain ⟨cur2, td⟩ := d2
      obtain rfl : cur2 = none := hdn2
      obtain ⟨t3, t4⟩ := robin_cnt plQ.M 200000 (by decide) S
      have cc0 := HO.out.c0
      have cc1 := HO.out.c1
      obtain ⟨S2, hS2⟩ : ∃ S2 : SW plQ.M.σ, S2 = (plQ.M.robin 200000 S).1 := ⟨_, rfl⟩
      rw [← hS2] at hW2 hq2 t3 t4
      generalize (plQ.M.robin 200000 S).2 = RN
      have HW2 := Lib.hid hW2
      have HQ2 := Lib.hid hq2
      have HFL2 := Lib.hid hfl2
      have z8 := hkp2.size
      have HB8 := Lib.hid hW2.buf
      have lp8 := hW2.buf.hd.lt
      have lc8 := Blk.lt hW2.buf.wd
      have X8 := Lib.hid (XM.out.keep hkp2 (fun h => h HX1.out))
      have BW8 := Lib.hid (BM.out.trans (hkp2.below (B := w.heap.size) BM.out.size (fun i hi h => h (HNW.out i hi))))
      have PO8 := Lib.hid (ownsRow_keep HPO.out hkp2 (fun i hi h => h (HPN.out i hi).1))
      have PI8 := Lib.hid (MacsIn.of (C := plFam) hW2 hq2.acts (M := fun j => j = p ∨ j = c) (fun j hj => by
       rcases hj with rfl | rfl
       ·exact .inr hW2.kp
       ·exact .inr hW2.kc))
      clear hW2 hq2 hfl2 hkd2 hkp2 hS2 HO HBL HXR
      have y0 := X8.out.cell 0
      have y1 := X8.out.cell 1
      have lx8 := X8.out.lt
      simp only [List.getElem?_cons_zero, List.getElem?_cons_succ] at y0 y1
      go_wp2_with fail
      refine (draNew_any 64 s 64 9 w8 (by decide) (by decide) (by omega) (by omega)).mono ?_
      rintro e w9 ⟨q3, F3, rfl, hq3, hinv, hF3, b9⟩
      rw [draStart_64 HS.out 9 (.inr rfl)] at hinv
      have z9 := b9.size
      have B9 := Lib.hid b9
      have HI9 := Lib.hid (show (Fam.Q draFam).inv w9 F3 q3 (q3, DraT.mo ⟨64, s, 64, 9, []⟩) from ⟨rfl, hinv⟩)
      have HN3 := Lib.hid (show ∀ i, F3 i → i ≠ p ∧ i ≠ c ∧ w8.heap.size ≤ i from fun i hi => by have := hF3 i hi; exact ⟨by omega, by omega, by omega⟩)
      clear hinv hF3 b9 y0 y1
      unfold ptr
      go_wp2_with fail
      obtain ⟨w10, hw10⟩ : ∃ w10, w10 = w9.alloc (Obj.cells #[.iface 61 (.pointer (some ⟨q3, 0, none⟩))] 66) := ⟨_, rfl⟩
      have b10 : Below w9.heap.size w9 w10 := by rw [hw10]; exact (Below.refl _ _).alloc (Nat.le_refl _) _
      have G10 := Lib.hid (show Blk w10 w9.heap.size [.iface 61 (.pointer (some ⟨q3, 0, none⟩))] by rw [hw10]; exact Blk.made w9 _ _)
      have z10 : w10.heap.size = w9.heap.size + 1 := by rw [hw10]; simp
      have B10 := Lib.hid (B9.out.trans (b10.mono z9))
      have HI10 := Lib.hid ((Fam.Q draFam).keep HI9.out (Below.keeps (M := fun _ => False) b10) (fun _ _ => id))
      rw [← hw10]
      clear hw10 b10 HI9 B9
      obtain ⟨N, bs9, t9, hrun, hN9, hout, hsrt, heq9, his9, hlen9⟩ := plEnd HS.out HQ2.out HFL2.out rfl
      have HOUT := Lib.hid hout
      have HSRT := Lib.hid hsrt
      have HEQ9 := Lib.hid heq9
      have HIS9 := Lib.hid his9
      have HLEN9 := Lib.hid hlen9
      refine (soloRun (Fam.Q draFam) (s := (q3, DraT.mo ⟨64, s, 64, 9, []⟩)) (s' := (q3, ((none, t9) : Option GetM × DraT))) (HB8.out.belows B10.out) HI10.out (fun h => (HN3.out p h).1 rfl) (fun h => (HN3.out c h).2.1 rfl) G10.out 200000 (ChP.runsQ q3 hrun) rfl (by omega) (by decide) (by omega) (by omega)).mono ?_
      rintro e w11 ⟨W3, rfl, hR⟩
      clear hrun hout hsrt heq9 his9 hlen9
      go_wp2_with fail
      refine hR.mono ?_
      rintro e w12 ⟨⟨k3, rfl⟩, hb12, ⟨F3', q3', hI12, np3, nc3, hF12⟩, k12⟩
      obtain ⟨rfl, ⟨bx, hPD⟩, _⟩ := hI12
      have HPD := Lib.hid (show (draK bx).P w12 q3' F3' none t9 from hPD)
      have HB12 := Lib.hid hb12
      have K12 := Lib.hid (show Keep (fun i => i = p ∨ i = c) w8 w12 from (Below.keeps (M := fun i => i = p ∨ i = c) B10.out).then k12 (fun i hi hh => hh.elim (fun h9 => by have := HN3.out i h9; omega) id))
      have z12 := K12.out.size
      have PI12 := Lib.hid (PI8.out.keep K12.out (fun j _ h => h))
      have hLd : L2[ss.length]? = some (qd, Sum.inr ((none, td) : Option GetM × DraT)) := by
       have h1 := HQ2.out.pw.fw.ll
       rw [List.length_map] at h1
       have h2 : (L2.map (·.2))[ss.length]? = some (Sum.inr ((none, td) : Option GetM × DraT)) := by
        rw [HQ2.out.st, List.getElem?_append_right (by rw [List.length_map]; have := HSS.out; omega), List.length_map, show ss.length - FL2.length = 0 by have := HSS.out; omega]
        rfl
       have h3 : (L2.map (·.1))[ss.length]? = some qd := by
        rw [HQ2.out.key, HKS.out, List.getElem?_append_right (by rw [List.length_map]; exact Nat.le_refl _), List.length_map, Nat.sub_self]
        rfl
       rw [List.getElem?_map] at h2 h3
       obtain ⟨x, hx, e2⟩ := Option.map_eq_some_iff.1 h2
       rw [hx] at h3
       have e3 : x.1 = qd := Option.some.inj h3
       rw [hx, ← e2, ← e3]
      obtain ⟨Fd2, hFd2, _⟩ := PI12.out.at_ _ _ hLd
      obtain ⟨bx2, hPd2⟩ : ∃ bx, (draK bx).P w12 qd Fd2 none td := (show draFam.inv w12 Fd2 qd ((none, td) : Option GetM × DraT) from hFd2).1
      have HPD2 := Lib.hid hPd2
      clear hR hb12 k12 hPD np3 nc3 hF12 HI10 G10 B10 HB8 hLd hFd2 hPd2
      go_wp2_with fail
      refine (draMsgs_ms HPD2.out).mono ?_
      rintro e w13 ⟨v13, rfl, h13⟩
      have h13 : MsN w12 w13 (td.out ++ draRest (none : Option GetM)) v13 := h13
      rw [show td.out ++ draRest (none : Option GetM) = td.out from List.append_nil _] at h13
      obtain ⟨⟨O1, R1, hm13, hor13, hdj13⟩, b13⟩ := h13
      obtain ⟨a13, c13, rfl⟩ := hm13.sl
      have HM13 := Lib.hid hm13
      have HOR13 := Lib.hid hor13
      have HDJ13 := Lib.hid hdj13
      have B13 := Lib.hid b13
      have z13 := b13.size
      have HPD13 := Lib.hid ((draK bx).below HPD.out b13)
      clear hm13 hor13 hdj13 b13 HPD HPD2
      go_wp2_with fail
      refine (draMsgs_any HPD13.out).mono ?_
      rintro e w14 ⟨v14, rfl, ms14, b14⟩
      have ms14 : MsIn w14 (fun i => w13.heap.size ≤ i ∧ i < w14.heap.size) (fun i => w13.heap.size ≤ i) v14 (t9.out ++ draRest (none : Option GetM)) := ms14
      rw [show t9.out ++ draRest (none : Option GetM) = t9.out from List.append_nil _] at ms14
      obtain ⟨a14, c14, rfl⟩ := ms14.sl
      have z14 := b14.size
      have HMS14 := Lib.hid ms14
      have HM14 := Lib.hid (HM13.out.keep (Below.keeps (M := fun _ => False) b14) (fun _ _ => id) (fun _ _ => id))
      have B14 := Lib.hid (B13.out.trans (b14.mono z13))
      have HOL := Lib.hid (show td.out.length + t9.out.length ≤ 60 by
       have h1 := congrArg List.length HOUT.out
       rw [List.length_append, List.length_map] at h1
       have h2 := HQ2.out.pw.fw.few H12.out
       rw [← pts_len, ← HQ2.out.pw.fw.all, List.length_map] at h2
       omega)
      clear ms14 b14 HM13 HPD13
      go_wp2_with (refine list_appMs2 rfl (.tmp 108) (.tmp 110) rfl rfl rfl HM14.out HMS14.out (by have := HOL.out; omega) (fun i hi hr => hi.elim (fun h => HDJ13.out i h hr) (fun h => by have := (HOR13.out i (.inr hr)).2; omega)) ?_)
      intro v15 w15 hm15 k15
      obtain ⟨va, vc, rfl⟩ := hm15.sl
      have z15 := k15.size
      have K15 := Lib.hid (show Keep (fun i => i = p ∨ i = c) w8 w15 from (K12.out.then ((Below.keeps (M := R1) B14.out).trans k15) (fun i hi h => by have := (HOR13.out i (.inr h)).1; omega)))
      have zk15 := K15.out.size
      have HB15 := Lib.hid ((HB12.out.belows B14.out).keep k15 (fun h => by have := (HOR13.out _ (.inr h)).1; omega) (fun h => by have := (HOR13.out _ (.inr h)).1; omega))
      have X15 := Lib.hid (X8.out.keep K15.out (fun h => by omega))
      have BW15 := Lib.hid (BW8.out.trans (K15.out.below (B := w.heap.size) BW8.out.size (fun i hi h => by have := B3.out.size; omega)))
      have PO15 := Lib.hid (ownsRow_keep PO8.out K15.out (fun i hi h => by have := (HPN.out i hi).2.1; omega))
      have PI15 := Lib.hid (PI8.out.keep K15.out (fun j _ h => h))
      have RLS := Lib.hid (rdls_src HR.out HL.out BW15.out)
      have HM15 := Lib.hid hm15
      have HVS := Lib.hid (show ∀ i, i < (Lb.map (·.l)).length → (ss.map flP)[i]? = ((L2.map (·.1))[i]?).map ptr from fun i hi => by
       rw [List.length_map] at hi
       have hi2 : i < ss.length := by have := HSS.out; omega
       rw [HQ2.out.key, HKS.out, List.getElem?_append_left (by rw [List.length_map]; exact hi2), List.getElem?_map, List.getElem?_map, List.getElem?_eq_getElem hi2]
       rfl)
      clear hm15 k15 HM14 HMS14 HDJ13 B13 B14 HB12 PI12
      go_wp2_with fail
      refine (plays_all HQ2.out.st HQ2.out.pw.fw.ll (by rw [List.length_map, ← HSS.out]; exact PO15.out) HVS.out PI15.out RLS.out HQ2.out.pw.fw.zd H12.out (by rw [List.length_map]; exact h5)).mono ?_
      rintro e w28 ⟨v28, rfl, o28, hb28, b28⟩
      obtain ⟨PT, hPT⟩ : ∃ PT, PT = allP (zipF FL2 (Lb.map (·.l))) := ⟨_, rfl⟩
      rw [← hPT] at o28 HOUT HSRT
      obtain ⟨OUT, hOUT⟩ : ∃ OUT, OUT = td.out ++ t9.out := ⟨_, rfl⟩
      rw [← hOUT] at HM15 HOUT ⊢
      have hlo : td.out.length + t9.out.length = OUT.length := by rw [hOUT, List.length_append]
      have hol := HOL.out
      have hlp : PT.length = OUT.length := by
       have := congrArg List.length HOUT.out
       rw [List.length_map] at this
       exact this.symm
      rw [hlp] at o28
      obtain ⟨xa, xl, xc, rfl⟩ := own_isSl o28
      have hxl : xl = OUT.length := by
       rcases o28.2 with ⟨e, h0⟩ | ⟨g, cap, cur, e, _⟩
       ·cases e
        exact h0.symm
       ·cases e
        rfl
      subst hxl
      have HO28 := Lib.hid o28
      have HB28 := Lib.hid (HB15.out.belows b28)
      have X28 := Lib.hid (X15.out.below b28 X15.out.lt)
      have BW28 := Lib.hid (BW15.out.trans (b28.mono BW15.out.size))
      have HMS28 := Lib.hid (HM15.out.keep (Below.keeps (M := fun _ => False) b28) (fun _ _ => id) (fun _ _ => id))
      have OLEN := Lib.hid (show OUT.length ≤ 60 by omega)
      have HLO := Lib.hid hlo
      have HLP := Lib.hid hlp
      clear o28 b28 hb28 hPT hOUT hlo hol hlp HM15 HB15 X15 BW15 PO15 PI15 RLS HVS HQ2 HW2 HFL2
      go_wp2_with fail
      go_loopw [126] (fun i wl => ∃ n : Nat, n ≤ OUT.length ∧ i = .int .i64 n ∧ Below w28.heap.size w28 wl) (fun i _ => OUT.length - (intOf i).toNat)
      case atStart => exact ⟨0, by omega, rfl, Below.refl _ _⟩
      case round =>
       obtain ⟨n7, hn7, rfl, hB⟩ := hrel
       by_cases hlt : n7 < OUT.length
       ·as_aux_lemma =>
        obtain ⟨y, hy⟩ : ∃ y, PT[n7]? = some y := ⟨_, List.getElem?_eq_getElem (by have := HLP.out; omega)⟩
        have hx : OUT[n7]? = some (y.t, y.d) := by rw [HOUT.out, List.getElem?_map, hy]; rfl
        have M1 := HMS28.out.keep (M := fun _ => False) (Below.keeps hB) (fun _ _ => id) (fun _ _ => id)
        obtain ⟨g1, c1, s1, n1, d1, e1, p1, p2, r1⟩ := M1.ms_cell2 hx
        have e1a : va = some ⟨g1, 0, none⟩ := by injection e1
        subst e1a
        obtain ⟨g2, rfl⟩ : ∃ g2, xa = some ⟨g2, 0, none⟩ := by
         rcases HO28.out.2 with ⟨_, h0⟩ | ⟨g, cap, cur, e, _⟩
         ·omega
         ·injection e with e _ _
          exact ⟨g, e⟩
        have lg2 := (World.ownsRow.lt HO28.out g2 rfl).2
        have olen := OLEN.out
        have lg1 := World.block_lt_of_cell? _ _ p1
        have lg2' : g2 < wr.heap.size := Nat.lt_of_lt_of_le lg2 hB.size
        have HBB := Lib.hid hB
        have R1' := Lib.hid r1
        have HY := Lib.hid hy
        have hki : (n7 : Int) < (OUT.length : Int) := by omega
        have hk0 : (0 : Int) ≤ (n7 : Int) := by omega
        have HCL := Lib.hid (show ∀ (k o : Nat) (x : Pt), PT[k]? = some x → o < 3 → wr.cell? ⟨g2, k * 3 + o, none⟩ = (ptL x)[o]? from fun k o x hx ho => by
         have hkl := (List.getElem?_eq_some_iff.1 hx).1
         rw [hB.cell (p := ⟨g2, k * 3 + o, none⟩) lg2, World.ownsRow.cellAt HO28.out (k * 3 + o) (by have := HLP.out; omega), ptL_at PT k o x hx ho])
        clear M1 hx hy e1 r1 hB lg2
        go_upto_region 35 with fail
        obtain ⟨wq, hwq⟩ : ∃ wq, wq = wr.alloc (Obj.cells #[.int .i32 y.t, .slice s1 n1 d1] 34) := ⟨_, rfl⟩
        have bq : Below wr.heap.size wr wq := by rw [hwq]; exact (Below.refl _ _).alloc (Nat.le_refl _) _
        have MQ : Blk wq wr.heap.size [.int .i32 y.t, .slice s1 n1 d1] := by rw [hwq]; exact Blk.made wr _ _
        have m0 := MQ.cell 0
        have m1 := MQ.cell 1
        simp only [List.getElem?_cons_zero, List.getElem?_cons_succ] at m0 m1
        have lq := MQ.lt
        have HCQ := Lib.hid (show ∀ (k o : Nat) (x : Pt), PT[k]? = some x → o < 3 → wq.cell? ⟨g2, k * 3 + o, none⟩ = (ptL x)[o]? from fun k o x hx ho => (bq.cell (p := ⟨g2, k * 3 + o, none⟩) lg2').trans (HCL.out k o x hx ho))
        have q0 := HCQ.out n7 0 y HY.out (by decide)
        have q1 := HCQ.out n7 1 y HY.out (by decide)
        have q2 := HCQ.out n7 2 y HY.out (by decide)
        simp only [ptL, List.getElem?_cons_zero, List.getElem?_cons_succ, Nat.add_zero] at q0 q1 q2
        have lg2q : g2 < wq.heap.size := Nat.lt_of_lt_of_le lg2' bq.size
        have cv := fun n => conv_rd (w := wq.drewN n) 32 9 Tryz.underlying32 Tryz.underlying9 (RdB.drewN n (R1'.out.below bq))
        have BQ := Lib.hid (HBB.out.trans (bq.mono HBB.out.size))
        rw [← hwq]
        clear hwq bq MQ p1 p2 lg1 lg2'
        by_cases hz0 : n7 = 0
        ·subst hz0
         simp only [Nat.zero_mul, Nat.zero_add] at q0 q1 q2
         go_quiet (fail)
         go_wp2
         refine ⟨⟨0 + 1, by omega, by go_num, ?_⟩, by simp [intOf]; omega⟩
         exact bel_drewN _ BQ.out
        ·obtain ⟨m7, rfl⟩ : ∃ m7, n7 = m7 + 1 := ⟨n7 - 1, by omega⟩
         obtain ⟨yp, hyp⟩ : ∃ yp, PT[m7]? = some yp := ⟨_, List.getElem?_eq_getElem (by have := HLP.out; omega)⟩
         have qp := HCQ.out m7 0 yp hyp (by decide)
         simp only [ptL, List.getElem?_cons_zero, Nat.add_zero] at qp
         have hps : yp.p < y.p := srt_at HSRT.out hyp HY.out
         have hge : ¬ y.p ≤ yp.p := by omega
         have W7 : IntKind.i64.wrap (((m7 + 1 : Nat) : Int) - 1) = (m7 : Int) := by rw [show ((m7 + 1 : Nat) : Int) - 1 = (m7 : Int) by omega]; exact IntWalk.i64_in _ ⟨by omega, by omega⟩
         have hkm : (m7 : Int) < (OUT.length : Int) := by omega
         have hkm0 : (0 : Int) ≤ (m7 : Int) := by omega
         have hgz : (0 : Int) < ((m7 + 1 : Nat) : Int) := by omega
         go_quiet (fail)
         go_wp2
         refine ⟨⟨m7 + 1 + 1, by omega, by go_num, ?_⟩, by simp [intOf]; omega⟩
         exact bel_drewN _ BQ.out
       ·obtain rfl : n7 = OUT.length := by omega
        have HBW := Lib.hid (HB28.out.belows hB)
        have XW := Lib.hid (X28.out.below hB X28.out.lt)
        have BWW := Lib.hid (BW28.out.trans (hB.mono BW28.out.size))
        have c0 := XW.out.cell 0
        have c1 := XW.out.cell 1
        have lrc := XW.out.lt
        have lpc := HBW.out.hd.lt
        have lcc := Blk.lt HBW.out.wd
        simp only [List.getElem?_cons_zero, List.getElem?_cons_succ] at c0 c1
        clear hB hlt hn7
        go_wp2_with fail
        go_region_held3 (fun w' => w'.cell? ⟨w1.heap.size, 0, none⟩ = some (.int .i64 64) ∧ w'.cell? ⟨w1.heap.size, 1, none⟩ = some (.int .i64 s)) (first | go_keep | trivial)
         (first
          | (go_at_call 18; refine (mBytes_any p c _ bs9 _ (HBW.out.belows (by go_grown))).mono ?_; rintro e w6 ⟨bv, rfl, o6, b6⟩; obtain ⟨g6, cp6, rfl, hc6, hm6, hcell6⟩ := bytes_sl o6 (by have := HLEN9.out; omega); have B6 := Lib.hid ((by go_grown : Below wr.heap.size wr _).trans (b6.mono (by simp))); have HC6 := Lib.hid hcell6; have hc0 := fun o => B6.out.cell (p := ⟨w1.heap.size, o, none⟩) lrc; clear hcell6 o6 b6)
          | (go_at_call 28; refine (used0 (n := bs9.length) hm6 rfl hc6 (fun i hi => (by go_grown : Below w6.heap.size w6 _).cell (p := ⟨g6, 0 + i, none⟩) (World.block_lt_of_cell? _ _ (HC6.out i hi)) |>.trans (HC6.out i hi)) HIS9.out HS.out HLEN9.out HEQ9.out).mono ?_; rintro e w7 ⟨rfl, b7⟩; have B7 := Lib.hid (B6.out.trans ((by go_grown : Below w6.heap.size w6 _).trans (b7.mono (by simp)) |>.mono B6.out.size)); have hc1 := fun o => B7.out.cell (p := ⟨w1.heap.size, o, none⟩) lrc))
        go_wp2
        go_ret
        exact ⟨rfl, BWW.out.trans (B7.out.mono BWW.out.size)⟩
set_option maxHeartbeats 1000000 in
theorem plays_early (bits tries : Int) (t0 : Option Addr) (tn tc : Nat) (sa : Option Addr) (sn sc : Nat) (w : World) (h : 5 < tn ∨ 250 < sn) :
  Calls Tryz.prog 5 #[.int .u8 bits, .slice t0 tn tc, .int .u8 tries, .slice sa sn sc] w fun e w' => e = .returned (.bool true) ∧ Below w.heap.size w w' := by
 by_cases h1 : (5 : Int) < (tn : Int)
 ·go_enter Tryz.func5, Tryz.ntmps5
  go_wp2_with fail
  refine (fixed10_any _).mono ?_
  rintro e w1 ⟨rfl, b1⟩
  go_wp2
  go_ret
  exact ⟨rfl, b1⟩
 ·have h2 : (250 : Int) < (sn : Int) := by omega
  clear h
  go_enter Tryz.func5, Tryz.ntmps5
  go_wp2_with fail
  refine (fixed10_any _).mono ?_
  rintro e w1 ⟨rfl, b1⟩
  go_wp2
  go_ret
  exact ⟨rfl, b1⟩
theorem u8_bdP {a : Int} (h : (Lit.int .u8 a).wf = true) : 0 ≤ a ∧ a ≤ 255 := by
 simpa [Lit.wf, IntKind.min, IntKind.max, IntKind.signed, IntKind.bits] using h
theorem plays_said (bits : Int) (wa : (Lit.int .u8 bits).wf = true) (v : Value) (L : List LsV) (tries : Int) (wb : (Lit.int .u8 tries).wf = true) (pv : Value) (pk : List Int) (w : World) (h : RdR w v 1 (L.map LsV.cs)) (hL : ∀ x ∈ L, LsV.Ok w x) (rp : RdB w pv pk) (bp : IsB pk) :
  Calls Tryz.prog 5 #[.int .u8 bits, v, .int .u8 tries, pv] w fun e w' => e = .returned (.bool true) ∧ Below w.heap.size w w' := by
 obtain ⟨sa, sn, sc, rfl⟩ := rp.isSl
 obtain ⟨t0, tc, rfl⟩ : ∃ t0 tc, v = .slice t0 L.length tc := by
  rcases h with ⟨rfl, h2⟩ | ⟨a, cap, rfl, h2, _⟩ | ⟨b, off, cap, rfl, _⟩
  ·have : L.length = 0 := by have := congrArg List.length h2; simpa using this
   exact ⟨none, 0, by rw [this]⟩
  ·have : L.length = 0 := by have := congrArg List.length h2; simpa using this
   exact ⟨some a, cap, by rw [this]⟩
  ·exact ⟨_, _, by rw [List.length_map]⟩
 by_cases h1 : 5 < L.length ∨ 250 < sn
 ·exact plays_early bits tries t0 L.length tc sa sn sc w h1
 ·exact plays_main bits tries (u8_bdP wa) (u8_bdP wb) t0 tc L sa sn sc pk w h hL (by omega) rp bp (by omega)
end Go.Proofs.YtggjhleomocojaaGreat
