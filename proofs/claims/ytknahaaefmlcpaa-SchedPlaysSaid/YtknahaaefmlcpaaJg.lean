/- ref06.World.Pick, of a step of an actor that lives. And of any pick. Conditions: as it says. -/
import Derived.Test.YtknahaaefmlcpaaJc
namespace Go.Proofs.Ytknahaaefmlcpaa
set_option maxRecDepth 100000
open Go.RowKit
set_option linter.unusedVariables false
set_option linter.unusedSimpArgs false
set_option maxHeartbeats 16000000 in
theorem rPick_step {w : World} {κ : Nat → Kd} {R bb : Nat} {jv tv : Value} {J : List JbS} {S : SW CpM} (h : RoIn w κ R bb jv tv J S) (pk pa pn : Int) (N : Nat) (hN : N ≤ 99999) (hl : ∀ j ∈ J, j.T.length ≤ N) (hk0 : 0 ≤ S.clk) (hk1 : S.clk ≤ 4611686018427387904) (htr : S.tr.length ≤ 1000000) (hk : pk = 0) (hst : ∃ (k : Nat) (j : JbS), pa = k ∧ J[k]? = some j ∧ j.d = false) :
    Calls Try.prog 10 #[.pointer (some ⟨R, 0, none⟩), .agg #[.int .i64 pk, .int .i64 pa, .int .i64 pn]] w (RpPost w κ R bb jv N J.length (cpMac.pick S pk pa pn)) := by
  have H := Lib.hid h
  have HK0 := Lib.hid hk
  have HST0 := Lib.hid hst
  clear hk hst
  have HL := Lib.hid hl
  have HJL := Lib.hid (show S.acts.length = J.length by rw [h.st, List.length_map])
  obtain ⟨P, hP⟩ : ∃ P, P = cpMac.pick S pk pa pn := ⟨_, rfl⟩
  rw [← hP]
  have HP := Lib.hid hP
  obtain ⟨w3, hw3, p3, r3, x3, z3, b3⟩ := box3 w pk pa pn
  have HW3 := Lib.hid hw3
  have H3 := Lib.hid (h.below b3)
  have PB := Lib.hid p3
  have RB := Lib.hid r3
  have XB := Lib.hid x3
  have B3 := Lib.hid b3
  have NB1 := Lib.hid (show κ (w.heap.size + 1) = .no from h.no_big (by omega))
  have NB2 := Lib.hid (show κ (w.heap.size + 1 + 1) = .no from h.no_big (by omega))
  have RL := Lib.hid h.hd.lt
  obtain ⟨ja, jcap, hjv, hjm⟩ := h.jvSl
  unfold maxLen at hjm
  subst hjv
  have nRx : R ≠ w.heap.size + 1 + 1 := by have := RL.out; omega
  have nRx' : w.heap.size + 1 + 1 ≠ R := fun e => nRx e.symm
  clear hP h p3 r3 x3 b3 hl hw3
  obtain ⟨q0, q1, q2⟩ : w3.cell? ⟨w.heap.size, 0, none⟩ = some (.int .i64 pk) ∧ w3.cell? ⟨w.heap.size, 1, none⟩ = some (.int .i64 pa) ∧ w3.cell? ⟨w.heap.size, 2, none⟩ = some (.int .i64 pn) := PB.out.c3
  have W1 := H3.out.cells.2.1
  have W2 := H3.out.cells.2.2.1
  have WF2 := H3.out.hd.frozen 2
  obtain ⟨f0, f1, f2, f3, f4, f5, f6, f7, f8, f9, f10, f11⟩ := RB.out.f12
  obtain ⟨g0, g1, g2, g3, g4, g5, g6, g7, g8, g9, g10, g11⟩ := RB.out.c12
  go_enter Try.func10, Try.ntmps10
  go_upto_block 0 with fail
  rw [← HW3.out]
  clear HW3
  go_cut [7, 8, 9, 10, 11] from 14 to 113 (fun y7 y8 y9 y10 y11 wx => RpMid w κ R bb (.slice ja J.length jcap) tv N J.length S pk pa pn P wx)
  case first =>
    have hk := HK0.out
    have hst := HST0.out
    have h2 : ¬ pk = 2 := by omega
    have hb2 : (pk == 2) = false := by simp [h2]
    have h01 : pk = 0 ∨ pk = 1 := .inl hk
    have hb0 : (pk == 0) = true := by simp [hk]
    have hb1 : (pk == 1) = false := by simp [hk]
    obtain ⟨k', j', hpa, hj', hjd'⟩ := hst
    have hlj := (List.getElem?_eq_some_iff.1 hj').1
    have hr0 : ¬ pa < 0 := by omega
    have hr1 : ¬ (J.length : Int) ≤ pa := by omega
    have HST := Lib.hid (show ∀ k j, pa = (k : Nat) → J[k]? = some j → j.d = false from fun k j h1 h3 => by
      obtain rfl : k = k' := by omega
      rw [hj'] at h3
      obtain rfl := Option.some.inj h3
      exact hjd')
    clear hpa hj' hjd' hlj
    obtain ⟨k, rfl⟩ : ∃ k : Nat, pa = k := ⟨pa.toNat, by omega⟩
    have hkJ : k < J.length := by omega
    have hkJ' : (k : Int) < (J.length : Int) := by omega
    have hkn : (0 : Int) ≤ (k : Int) := by omega
    obtain ⟨j, hj⟩ : ∃ j, J[k]? = some j := ⟨_, List.getElem?_eq_getElem hkJ⟩
    obtain ⟨g, cap, hjv, hc1, hc2, kg, gl, hcell, hfr⟩ := H3.out.job hj
    cases hjv
    have HACT := Lib.hid (show S.acts[k]? = some j.ac by rw [H3.out.st, List.getElem?_map, hj]; rfl)
    have HJ := Lib.hid hj
    have KG := Lib.hid kg
    have JIN := Lib.hid (H3.out.jobs j (List.mem_of_getElem? hj))
    have hjd : j.d = false := HST.out k j rfl hj
    have JTL := Lib.hid (HL.out j (List.mem_of_getElem? hj))
    have Hw3 := H3
    have PBw3 := PB
    have RBw3 := RB
    have XBw3 := XB
    have Bw3 := B3
    obtain ⟨jk, jA, jn, js, jb, jt, jT, jd⟩ := j
    have dX : ∀ i u, [Value.int .i64 jk, .int .i64 jA, .int .i64 jn, js, jt, .bool jd][i]? = some u → w3.cell? ⟨g, k * 6 + i, none⟩ = some u := hcell
    have d5 := dX 5 _ rfl
    have HH2 := Lib.hid h2
    have HPK := Lib.hid hk
    have HCELL := Lib.hid dX
    have HFR := Lib.hid hfr
    clear hcell hj kg hr0 hr1 hk h2 dX hfr
    have H01 := Lib.hid h01
    clear h01
    go_wp2_with fail
    go_quiet (fail)
    obtain ⟨wa, hwn⟩ : ∃ wn : World, wn = w3.drewN nq := ⟨_, rfl⟩
    rw [← hwn]
    have bwa : Below w3.heap.size w3 wa := by rw [hwn]; exact bel_drewN nq (Below.refl _ _)
    have zwa : wa.heap.size = w3.heap.size := by rw [hwn]; rfl
    have Hwa := Lib.hid (Hw3.out.below bwa)
    have PBwa := Lib.hid (PBw3.out.below bwa (by omega))
    have RBwa := Lib.hid (RBw3.out.below bwa (by omega))
    have XBwa := Lib.hid (XBw3.out.below bwa (by omega))
    have Bwa := Lib.hid (Bw3.out.trans (bwa.mono (by omega)))
    have W1a := Hwa.out.cells.2.1
    have d5a : wa.cell? ⟨g, k * 6 + 5, none⟩ = some (.bool jd) := (bwa.cell (p := ⟨g, k * 6 + 5, none⟩) gl).trans d5
    clear hwn W1 W2 WF2 d5 q0 q1 q2
    obtain ⟨q0, q1, q2⟩ : wa.cell? ⟨w.heap.size, 0, none⟩ = some (.int .i64 pk) ∧ wa.cell? ⟨w.heap.size, 1, none⟩ = some (.int .i64 k) ∧ wa.cell? ⟨w.heap.size, 2, none⟩ = some (.int .i64 pn) := PBwa.out.c3
    go_wp2_with fail
    go_quiet (fail)
    obtain ⟨wb, hwn⟩ : ∃ wn : World, wn = wa.drewN nq := ⟨_, rfl⟩
    rw [← hwn]
    have bwb : Below wa.heap.size wa wb := by rw [hwn]; exact bel_drewN nq (Below.refl _ _)
    have zwb : wb.heap.size = wa.heap.size := by rw [hwn]; rfl
    have Hwb := Lib.hid (Hwa.out.below bwb)
    have PBwb := Lib.hid (PBwa.out.below bwb (by omega))
    have RBwb := Lib.hid (RBwa.out.below bwb (by omega))
    have XBwb := Lib.hid (XBwa.out.below bwb (by omega))
    have Bwb := Lib.hid (Bwa.out.trans (bwb.mono (by omega)))
    have d5b : wb.cell? ⟨g, k * 6 + 5, none⟩ = some (.bool jd) := (bwb.cell (p := ⟨g, k * 6 + 5, none⟩) (by show g < _; omega)).trans d5a
    have BAB := Lib.hid (bwa.trans (bwb.mono (by omega)))
    clear hwn W1a d5a q0 q1 q2 bwa bwb f0 f1 f2 f3 f4 f5 f6 f7 f8 f9 f10 f11 g0 g1 g2 g3 g4 g5 g6 g7 g8 g9 g10 g11
    obtain ⟨q0, q1, q2⟩ : wb.cell? ⟨w.heap.size, 0, none⟩ = some (.int .i64 pk) ∧ wb.cell? ⟨w.heap.size, 1, none⟩ = some (.int .i64 k) ∧ wb.cell? ⟨w.heap.size, 2, none⟩ = some (.int .i64 pn) := PBwb.out.c3
    have hgx : g ≠ w.heap.size + 1 + 1 := by have := KG.out; intro e; rw [e, NB2.out] at this; cases this
    have hgr : g ≠ w.heap.size + 1 := by have := KG.out; intro e; rw [e, NB1.out] at this; cases this
    have hgp : g ≠ w.heap.size := by have := KG.out; intro e; rw [e, H.out.no_big (Nat.le_refl _)] at this; cases this
    cases jd with
    | true =>
      have hpk := Lib.hid (pick_dead cpMac S pk k pn HH2.out H01.out _ HACT.out rfl)
      obtain ⟨f0, f1, f2, f3, f4, f5, f6, f7, f8, f9, f10, f11⟩ := RBwb.out.f12
      obtain ⟨g0, g1, g2, g3, g4, g5, g6, g7, g8, g9, g10, g11⟩ := RBwb.out.c12
      exact absurd hjd (by nofun)
    | false =>
      have dY : ∀ i u, [Value.int .i64 jk, .int .i64 jA, .int .i64 jn, js, jt, .bool false][i]? = some u → wb.cell? ⟨g, k * 6 + i, none⟩ = some u := fun i u h => (BAB.out.cell (p := ⟨g, k * 6 + i, none⟩) (by show g < _; omega)).trans (HCELL.out i u h)
      have JINb := Lib.hid (JIN.out.keep (Below.keeps (M := fun _ => False) BAB.out) (fun _ _ => id) (fun _ => id))
      have JTLb : jT.length ≤ N := JTL.out
      have JOK := Lib.hid (JINb.out.ok (by show jT.length ≤ _; omega))
      obtain ⟨sa, sl, sc, hs⟩ := JIN.out.s
      obtain ⟨ta, tn, ht⟩ := rdA_slice (show RdA w3 jt jT from JIN.out.an.rdA)
      dsimp only at hs
      subst hs ht
      have d0 : wb.cell? ⟨g, k * 6, none⟩ = some (.int .i64 jk) := dY 0 _ rfl
      have d1 : wb.cell? ⟨g, k * 6 + 1, none⟩ = some (.int .i64 jA) := dY 1 _ rfl
      have d2 : wb.cell? ⟨g, k * 6 + 2, none⟩ = some (.int .i64 jn) := dY 2 _ rfl
      have d3 : wb.cell? ⟨g, k * 6 + 3, none⟩ = some (.slice sa sl sc) := dY 3 _ rfl
      have d4 : wb.cell? ⟨g, k * 6 + 4, none⟩ = some (.slice ta jT.length tn) := dY 4 _ rfl
      obtain ⟨m, hm⟩ : ∃ m, m = JbS.mac ⟨jk, jA, jn, .slice sa sl sc, jb, .slice ta jT.length tn, jT, false⟩ := ⟨_, rfl⟩
      have HM := Lib.hid hm
      have hpk := Lib.hid (pick_step cpMac S pk k pn HH2.out HPK.out m (by rw [hm]; exact HACT.out))
      clear dY hm
      go_wp2_with fail
      refine (jNext_any ⟨jk, jA, jn, .slice sa sl sc, jb, .slice ta jT.length tn, jT, false⟩ wb JOK.out).mono ?_
      rintro e w1 ⟨n0, nl, nc, rfl, hr, b1, hown⟩
      rw [← HM.out] at hr ⊢
      obtain ⟨A, hA⟩ : ∃ A, A = m.want := ⟨_, rfl⟩
      rw [← hA] at hr ⊢
      have HA := Lib.hid hA
      have HR := Lib.hid hr
      have z1 := b1.size
      have HOWN := Lib.hid (show ∀ i, (Value.slice n0 nl nc).ownBlock = some i → κ i = .tb ∨ (wb.heap.size ≤ i ∧ i < w1.heap.size) from fun i hi => (hown i hi).1.elim (fun h => .inl (JIN.out.ks i h)) (fun h => .inr ⟨h, (hown i hi).2⟩))
      unfold AA.V
      obtain ⟨w2, hw2⟩ : ∃ w2, w2 = w1.alloc (Obj.cells #[.int .i64 A.k, .int .i64 A.a, .int .i64 A.n, .int .u64 A.v, .int .u64 A.x, .slice n0 nl nc] 47) := ⟨_, rfl⟩
      have B12 := Lib.hid (show Below w1.heap.size w1 w2 by rw [hw2]; go_grown)
      have z2 : w2.heap.size = w1.heap.size + 1 := by rw [hw2]; simp
      have AB := Lib.hid (show Blk w2 w1.heap.size [.int .i64 A.k, .int .i64 A.a, .int .i64 A.n, .int .u64 A.v, .int .u64 A.x, .slice n0 nl nc] by rw [hw2]; exact Blk.made w1 _ _)
      have BB2 := Lib.hid (show Below wb.heap.size wb w2 from b1.trans (B12.out.mono b1.size))
      have HW2 := Lib.hid (Hwb.out.below BB2.out)
      have B2 := Lib.hid (Bwb.out.trans (BB2.out.mono Bwb.out.size))
      have XB2 := Lib.hid (XBwb.out.below BB2.out (by omega))
      have RB2 := Lib.hid (RBwb.out.below BB2.out (by omega))
      have R2 := Lib.hid (show RdB w2 (.slice n0 nl nc) A.b from hr.below B12.out)
      clear hr b1 hown hA d0 d1 d2 d3 d4 d5b q0 q1 q2
      go_upto_region 18 with fail
      rw [← hw2]
      clear hw2
      cases hlv : m.live with
      | false =>
        have hpk2 := hpk.out
        rw [if_pos (show cpMac.live m = false from hlv)] at hpk2
        have HPK2 := Lib.hid hpk2
        clear hpk2
        go_wp2_with fail
        go_meet
        refine ⟨κ, J, S, aaZ, anZ, none, 0, 0, none, 0, 0, HP.out.trans HPK2.out, rfl, HW2.out, fun _ _ => rfl, NB1.out, NB2.out, XB2.out, RB2.out, .inl ⟨rfl, rfl⟩, .inl ⟨rfl, rfl⟩, (fun i hi => by rcases hi with hi | hi <;> cases hi), fun x hx => Nat.le_succ_of_le (HL.out x hx), rfl, Below.keeps B2.out⟩
      | true =>
        have hpk2 := hpk.out
        rw [if_neg (show ¬ cpMac.live m = false by show ¬ m.live = false; rw [hlv]; nofun)] at hpk2
        have HPK2 := Lib.hid hpk2
        clear hpk2
        obtain ⟨an, han⟩ : ∃ an, an = A.ansE S.bs := ⟨_, rfl⟩
        obtain ⟨er, her⟩ : ∃ er, er = A.err S.bs.length := ⟨_, rfl⟩
        obtain ⟨ob, hob⟩ : ∃ ob, ob = A.outE S.bs := ⟨_, rfl⟩
        have kbb := HW2.out.kb
        have kRR := HW2.out.kR
        have bblt : bb < w.heap.size := H.out.all bb (by rw [kbb]; nofun)
        have HNL := Lib.hid (show ¬ w1.heap.size = bb by omega)
        have HNR := Lib.hid (show ¬ R = bb by intro e; rw [e, kbb] at kRR; cases kRR)
        have HNT := Lib.hid (show ¬ w2.heap.size = bb by omega)
        have HNE := Lib.hid (show A.b.length ≠ 0 → ∀ i, (Value.slice n0 nl nc).ownBlock = some i → i ≠ bb from fun _ i hi e => by
          rcases HOWN.out i hi with h1 | h1
          · rw [e, kbb] at h1; cases h1
          · omega)
        have HWF := Lib.hid (show A.wf by rw [HA.out]; exact (show m.Fine by rw [HM.out]; exact JIN.out.fine).wf)
        have hdo : ∀ wq, Blk wq bb (S.bs.map (Value.int .u8)) → RdB wq (.slice n0 nl nc) A.b → Calls Try.prog 35 #[.slice (some ⟨bb, 0, none⟩) S.bs.length S.bs.length, .agg #[.int .i64 A.k, .int .i64 A.a, .int .i64 A.n, .int .u64 A.v, .int .u64 A.x, .slice n0 nl nc]] wq fun e w' => ∃ q0 ql qc, e = .returned (.tuple #[.agg #[.int .u64 an.v, .bool an.d, .slice q0 ql qc], .int .i64 er]) ∧ OwB 5 wq.heap.size w' (.slice q0 ql qc) an.b ∧ Blk w' bb (ob.map (Value.int .u8)) ∧ Keep (· = bb) wq w' := by
          intro wq g1 g2
          rw [han, her, hob]
          exact rDo_all bb S.bs A n0 nl nc wq g1 HW2.out.isb HW2.out.bl HWF.out g2 HNE.out
        have HDO := Lib.hid hdo
        have HAN := Lib.hid han
        have HER := Lib.hid her
        have HOB := Lib.hid hob
        have HSZ := Lib.hid (show w1.heap.size < w2.heap.size by omega)
        have HSR := Lib.hid (show R < w2.heap.size by have := HW2.out.hd.lt; omega)
        have HT0 := Lib.hid (show Blk (w2.alloc (Obj.cells #[.int .u64 0, .bool false, .slice none 0 0] 49)).drew w2.heap.size [.int .u64 0, .bool false, .slice none 0 0] from Blk.drew (Blk.made w2 _ _))
        have RA0 := HW2.out.cells.1
        obtain ⟨l0, l1, l2, l3, l4, l5⟩ := AB.out.c6
        have HZ2 := Lib.hid z2
        have HZ1 := Lib.hid z1
        have HLV := Lib.hid hlv
        clear hdo han her hob kbb kRR hlv z2 z1
        go_upto_region 19 with fail
        go_cut [10, 11] from 82 to 90 (fun t e wx => ∃ (Tq : Nat) (q0 : Option Addr) (ql qc : Nat), t = .pointer (some ⟨Tq, 0, none⟩) ∧ e = .int .i64 er ∧ w2.heap.size ≤ Tq ∧ Blk wx Tq [.int .u64 an.v, .bool an.d, .slice q0 ql qc] ∧ OwB 5 w2.heap.size wx (.slice q0 ql qc) an.b ∧ Blk wx bb (ob.map (Value.int .u8)) ∧ Keep (· = bb) w2 wx)
        case first =>
          refine wp_region_held_drew (S := fun w' => w'.cell? ⟨R, 0, none⟩ = some (.slice (some ⟨bb, 0, none⟩) S.bs.length S.bs.length) ∧ w'.cell? ⟨w1.heap.size, 0, none⟩ = some (.int .i64 A.k) ∧ w'.cell? ⟨w1.heap.size, 1, none⟩ = some (.int .i64 A.a) ∧ w'.cell? ⟨w1.heap.size, 2, none⟩ = some (.int .i64 A.n) ∧ w'.cell? ⟨w1.heap.size, 3, none⟩ = some (.int .u64 A.v) ∧ w'.cell? ⟨w1.heap.size, 4, none⟩ = some (.int .u64 A.x) ∧ w'.cell? ⟨w1.heap.size, 5, none⟩ = some (.slice n0 nl nc)) (by kernel_rfl) ?_ (fun hHeld => ?_)
          · try dsimp only
            exact ⟨RA0, l0, l1, l2, l3, l4, l5⟩
          refine wpAnyH_take (i := 0) (v := ?_) rfl (by kernel_rfl) (by kernel_rfl) (by kernel_rfl) (fun _ _ _ h => h) (Or.inl ⟨by rfl, ?_⟩) (by assumption) ?_
          rotate_left
          · intro w0 hSw
            (try dsimp only at hSw)
            go_simp
            try with_reducible rfl
          try simp only [Act.put, List.getElem_toArray, List.getElem_cons_zero, List.getElem_cons_succ, List.setIfInBounds_toArray, List.set_cons_zero, List.set_cons_succ]
          refine wpAnyH_take (i := 1) (v := ?_) rfl (by kernel_rfl) (by kernel_rfl) (by kernel_rfl) (fun _ _ _ h => h) (Or.inl ⟨by rfl, ?_⟩) (by assumption) ?_
          rotate_left
          · intro w0 hSw
            (try dsimp only at hSw)
            go_simp
            try with_reducible rfl
          try simp only [Act.put, List.getElem_toArray, List.getElem_cons_zero, List.getElem_cons_succ, List.setIfInBounds_toArray, List.set_cons_zero, List.set_cons_succ]
          refine wpAnyH_take (i := 2) (v := ?_) rfl (by kernel_rfl) (by kernel_rfl) (by kernel_rfl) (fun _ _ _ h => h) (Or.inl ⟨by rfl, ?_⟩) (by assumption) ?_
          rotate_left
          · intro w0 hSw
            (try dsimp only at hSw)
            go_simp
            try with_reducible rfl
          try simp only [Act.put, List.getElem_toArray, List.getElem_cons_zero, List.getElem_cons_succ, List.setIfInBounds_toArray, List.set_cons_zero, List.set_cons_succ]
          refine wpAnyH_take (i := 3) (v := ?_) rfl (by kernel_rfl) (by kernel_rfl) (by kernel_rfl) (fun _ _ _ h => h) (Or.inl ⟨by rfl, ?_⟩) (by assumption) ?_
          rotate_left
          · intro w0 hSw
            (try dsimp only at hSw)
            go_simp
            try with_reducible rfl
          try simp only [Act.put, List.getElem_toArray, List.getElem_cons_zero, List.getElem_cons_succ, List.setIfInBounds_toArray, List.set_cons_zero, List.set_cons_succ]
          refine wpAnyH_take (i := 4) (v := ?_) rfl (by kernel_rfl) (by kernel_rfl) (by kernel_rfl) (fun _ _ _ h => h) (Or.inl ⟨by rfl, ?_⟩) (by assumption) ?_
          rotate_left
          · intro w0 hSw
            (try dsimp only at hSw)
            go_simp
            try with_reducible rfl
          try simp only [Act.put, List.getElem_toArray, List.getElem_cons_zero, List.getElem_cons_succ, List.setIfInBounds_toArray, List.set_cons_zero, List.set_cons_succ]
          refine wpAnyH_ready (rs := [5, 9]) (by kernel_rfl) (by simp) ?_
          refine AllReadyH.cons rfl (fun K hK => ?_) (AllReadyH.cons rfl (fun K hK => ?_) AllReadyH.nil)
          · go_simp
            go_at_call 35
            refine (HDO.out _ (Blk.drew HW2.out.by_) (R2.out.below (bel_drewN 1 (Below.refl _ _)))).mono ?_
            rintro e w4 ⟨q0, ql, qc, rfl, o4, g4, k4⟩
            have hc := fun o => k4.cell (b := w1.heap.size) o (HSZ.out) HNL.out
            have hcR := fun o => k4.cell (b := R) o (HSR.out) HNR.out
            go_wp2_with fail
            refine hK.out _ _ ?_ (fun hHeld => ?_)
            · try dsimp only
              exact ⟨(hcR 0).trans RA0, (hc 0).trans l0, (hc 1).trans l1, (hc 2).trans l2, (hc 3).trans l3, (hc 4).trans l4, (hc 5).trans l5⟩
            clear hK K
            try simp only [Act.put, List.getElem_toArray, List.getElem_cons_zero, List.getElem_cons_succ, List.setIfInBounds_toArray, List.set_cons_zero, List.set_cons_succ]
            refine wpAnyH_take (i := 6) (v := ?_) rfl (by kernel_rfl) (by kernel_rfl) (by kernel_rfl) (fun _ _ _ h => h) (Or.inl ⟨by rfl, ?_⟩) (by assumption) ?_
            rotate_left
            · intro w0 hSw
              (try dsimp only at hSw)
              go_simp
              try with_reducible rfl
            try simp only [Act.put, List.getElem_toArray, List.getElem_cons_zero, List.getElem_cons_succ, List.setIfInBounds_toArray, List.set_cons_zero, List.set_cons_succ]
            refine wpAnyH_take (i := 7) (v := ?_) rfl (by kernel_rfl) (by kernel_rfl) (by kernel_rfl) (fun _ _ _ h => h) (Or.inl ⟨by rfl, ?_⟩) (by assumption) ?_
            rotate_left
            · intro w0 hSw
              (try dsimp only at hSw)
              go_simp
              try with_reducible rfl
            try simp only [Act.put, List.getElem_toArray, List.getElem_cons_zero, List.getElem_cons_succ, List.setIfInBounds_toArray, List.set_cons_zero, List.set_cons_succ]
            refine wpAnyH_take (i := 8) (v := ?_) rfl (by kernel_rfl) (by kernel_rfl) (by kernel_rfl) (fun _ _ _ h => h) (Or.inl ⟨by rfl, ?_⟩) (by assumption) ?_
            rotate_left
            · intro w0 hSw
              (try dsimp only at hSw)
              go_simp
              try with_reducible rfl
            try simp only [Act.put, List.getElem_toArray, List.getElem_cons_zero, List.getElem_cons_succ, List.setIfInBounds_toArray, List.set_cons_zero, List.set_cons_succ]
            refine wpAnyH_ready (rs := [9]) (by kernel_rfl) (by simp) ?_
            refine AllReadyH.cons rfl (fun K hK => ?_) AllReadyH.nil
            go_simp
            refine hK.out _ _ ?_ (fun hHeld => ?_)
            · try dsimp only
              go_keep
            clear hK K
            try simp only [Act.put, List.getElem_toArray, List.getElem_cons_zero, List.getElem_cons_succ, List.setIfInBounds_toArray, List.set_cons_zero, List.set_cons_succ]
            refine wpAnyH_ready (rs := [10]) (by kernel_rfl) (by simp) ?_
            refine AllReadyH.cons rfl (fun K hK => ?_) AllReadyH.nil
            go_simp
            refine hK.out _ _ ?_ (fun hHeld => ?_)
            · try dsimp only
              go_keep
            clear hK K
            try simp only [Act.put, List.getElem_toArray, List.getElem_cons_zero, List.getElem_cons_succ, List.setIfInBounds_toArray, List.set_cons_zero, List.set_cons_succ]
            refine wpAnyH_take (i := 11) (v := ?_) rfl (by kernel_rfl) (by kernel_rfl) (by kernel_rfl) (fun _ _ _ h => h) (Or.inl ⟨by rfl, ?_⟩) (by assumption) ?_
            rotate_left
            · intro w0 hSw
              (try dsimp only at hSw)
              go_simp
              try with_reducible rfl
            try simp only [Act.put, List.getElem_toArray, List.getElem_cons_zero, List.getElem_cons_succ, List.setIfInBounds_toArray, List.set_cons_zero, List.set_cons_succ]
            refine wpAnyH_done (by kernel_rfl) ?_ _
            go_wp2_with fail
            go_meet
            exact ⟨w4.heap.size, q0, ql, qc, rfl, rfl, k4.size, Blk.made w4 _ _, OwB.alloc (OwB.mono o4 (by rw [World.size_drew]; exact Nat.le_refl _)) _, Blk.alloc g4 _, Keep.alloc (Keep.trans (Keep.drew (Keep.refl _ _)) k4) _⟩
          · go_simp
            go_wp2_with fail
            refine hK.out _ _ ?_ (fun hHeld => ?_)
            · try dsimp only
              go_keep
            clear hK K
            try simp only [Act.put, List.getElem_toArray, List.getElem_cons_zero, List.getElem_cons_succ, List.setIfInBounds_toArray, List.set_cons_zero, List.set_cons_succ]
            refine wpAnyH_ready (rs := [5]) (by kernel_rfl) (by simp) ?_
            refine AllReadyH.cons rfl (fun K hK => ?_) AllReadyH.nil
            go_simp
            go_at_call 35
            refine (HDO.out _ (Blk.drew (Blk.alloc HW2.out.by_ _)) (R2.out.below (bel_drewN 1 ((Below.refl _ _).alloc (Nat.le_refl _) _)))).mono ?_
            rintro e w4 ⟨q0, ql, qc, rfl, o4, g4, k4⟩
            have hc := fun o => k4.cell (b := w1.heap.size) o (Nat.lt_of_lt_of_le HSZ.out (by rw [World.size_drew, World.size_alloc]; exact Nat.le_succ _)) HNL.out
            have hcR := fun o => k4.cell (b := R) o (Nat.lt_of_lt_of_le HSR.out (by rw [World.size_drew, World.size_alloc]; exact Nat.le_succ _)) HNR.out
            have E4 := Lib.hid (HT0.out.keep k4 HNT.out)
            obtain ⟨e40, e41, e42⟩ := Blk.c3 E4.out
            have e50 := E4.out.frozen 0
            have e51 := E4.out.frozen 1
            have e52 := E4.out.frozen 2
            have nW1 : w2.heap.size ≠ R := by have := HSR.out; omega
            have nL1 : w2.heap.size ≠ w1.heap.size := by have := HZ2.out; omega
            go_wp2_with fail
            refine hK.out _ _ ?_ (fun hHeld => ?_)
            · try dsimp only
              go_keep
            clear hK K
            try simp only [Act.put, List.getElem_toArray, List.getElem_cons_zero, List.getElem_cons_succ, List.setIfInBounds_toArray, List.set_cons_zero, List.set_cons_succ]
            refine wpAnyH_take (i := 6) (v := ?_) rfl (by kernel_rfl) (by kernel_rfl) (by kernel_rfl) (fun _ _ _ h => h) (Or.inl ⟨by rfl, ?_⟩) (by assumption) ?_
            rotate_left
            · intro w0 hSw
              (try dsimp only at hSw)
              go_simp
              try with_reducible rfl
            try simp only [Act.put, List.getElem_toArray, List.getElem_cons_zero, List.getElem_cons_succ, List.setIfInBounds_toArray, List.set_cons_zero, List.set_cons_succ]
            refine wpAnyH_take (i := 7) (v := ?_) rfl (by kernel_rfl) (by kernel_rfl) (by kernel_rfl) (fun _ _ _ h => h) (Or.inl ⟨by rfl, ?_⟩) (by assumption) ?_
            rotate_left
            · intro w0 hSw
              (try dsimp only at hSw)
              go_simp
              try with_reducible rfl
            try simp only [Act.put, List.getElem_toArray, List.getElem_cons_zero, List.getElem_cons_succ, List.setIfInBounds_toArray, List.set_cons_zero, List.set_cons_succ]
            refine wpAnyH_take (i := 8) (v := ?_) rfl (by kernel_rfl) (by kernel_rfl) (by kernel_rfl) (fun _ _ _ h => h) (Or.inl ⟨by rfl, ?_⟩) (by assumption) ?_
            rotate_left
            · intro w0 hSw
              (try dsimp only at hSw)
              go_simp
              try with_reducible rfl
            try simp only [Act.put, List.getElem_toArray, List.getElem_cons_zero, List.getElem_cons_succ, List.setIfInBounds_toArray, List.set_cons_zero, List.set_cons_succ]
            refine wpAnyH_ready (rs := [10]) (by kernel_rfl) (by simp) ?_
            refine AllReadyH.cons rfl (fun K hK => ?_) AllReadyH.nil
            go_simp
            refine hK.out _ _ ?_ (fun hHeld => ?_)
            · try dsimp only
              go_keep
            clear hK K
            try simp only [Act.put, List.getElem_toArray, List.getElem_cons_zero, List.getElem_cons_succ, List.setIfInBounds_toArray, List.set_cons_zero, List.set_cons_succ]
            refine wpAnyH_take (i := 11) (v := ?_) rfl (by kernel_rfl) (by kernel_rfl) (by kernel_rfl) (fun _ _ _ h => h) (Or.inl ⟨by rfl, ?_⟩) (by assumption) ?_
            rotate_left
            · intro w0 hSw
              (try dsimp only at hSw)
              go_simp
              try with_reducible rfl
            try simp only [Act.put, List.getElem_toArray, List.getElem_cons_zero, List.getElem_cons_succ, List.setIfInBounds_toArray, List.set_cons_zero, List.set_cons_succ]
            refine wpAnyH_done (by kernel_rfl) ?_ _
            go_wp2_with fail
            go_meet
            have OB := OwB.farC (OwB.farC (OwB.farC (OwB.mono o4 (show w2.heap.size + 1 ≤ _ by rw [World.size_drew, World.size_alloc]; exact Nat.le_refl _)) (a := ⟨w2.heap.size, 0, none⟩) (Nat.lt_succ_self _) (.int .u64 an.v)) (a := ⟨w2.heap.size, 1, none⟩) (Nat.lt_succ_self _) (.bool an.d)) (a := ⟨w2.heap.size, 2, none⟩) (Nat.lt_succ_self _) (.slice q0 ql qc)
            have np : bb ≠ w2.heap.size := fun e => HNT.out e.symm
            have KB : Keep (fun k => k = bb) w2 w4 := Keep.trans (Keep.drew (Keep.alloc (Keep.refl _ _) _)) k4
            exact ⟨w2.heap.size, q0, ql, qc, rfl, rfl, Nat.le_refl _, ((E4.out.set 0 _).set 1 _).set 2 _, OwB.mono OB (Nat.le_succ _), ((Blk.far (a := ⟨w2.heap.size, 0, none⟩) g4 np _).far (a := ⟨w2.heap.size, 1, none⟩) np _).far (a := ⟨w2.heap.size, 2, none⟩) np _, ((KB.setCell (p := ⟨w2.heap.size, 0, none⟩) (.inr (Nat.le_refl _)) _).setCell (p := ⟨w2.heap.size, 1, none⟩) (.inr (Nat.le_refl _)) _).setCell (p := ⟨w2.heap.size, 2, none⟩) (.inr (Nat.le_refl _)) _⟩
        case rest =>
          obtain ⟨Tq, q0, ql, qc, rfl, rfl, hT, tb, o3, g3, k3⟩ := hcut
          have z3 := k3.size
          have z2 := HZ2.out
          have z1 := HZ1.out
          have hTn : Tq ≠ bb := fun e => by omega
          have tlt := tb.lt
          have TB3 := Lib.hid tb
          have O3 := Lib.hid o3
          have G3 := Lib.hid g3
          have K3 := Lib.hid k3
          have RB3 := Lib.hid (RB2.out.keep k3 (by show ¬ w.heap.size + 1 = bb; omega))
          have XB3 := Lib.hid (XB2.out.keep k3 (by show ¬ w.heap.size + 1 + 1 = bb; omega))
          have AB3 := Lib.hid (AB.out.keep k3 HNL.out)
          have KP3 := Lib.hid (show Keep (fun i => κ i ≠ .no) w wc from (Below.keeps B2.out).then k3 (fun i hi e => by show κ i ≠ .no; rw [show i = bb from e, HW2.out.kb]; nofun))
          have hgb : ¬ g = bb := fun e => by have := KG.out; rw [e, HW2.out.kb] at this; cases this
          have glc : g < wc.heap.size := by omega
          have HFRc := Lib.hid (fun i => (k3.frozen (b := g) i (by omega) hgb).trans ((BB2.out.frozen (p := ⟨g, i, none⟩) (by show g < _; omega)).trans ((BAB.out.frozen (p := ⟨g, i, none⟩) (by show g < _; omega)).trans (HFR.out i))))
          have HCLc := Lib.hid (fun i u h => (k3.cell (b := g) (k * 6 + i) (by omega) hgb).trans ((BB2.out.cell (p := ⟨g, k * 6 + i, none⟩) (by show g < _; omega)).trans ((BAB.out.cell (p := ⟨g, k * 6 + i, none⟩) (by show g < _; omega)).trans (HCELL.out i u h))))
          have JIN3 := Lib.hid (show JbS.In wc κ ⟨jk, jA, jn, .slice sa sl sc, jb, .slice ta jT.length tn, jT, false⟩ from (JINb.out.keep (Below.keeps (M := fun _ => False) BB2.out) (fun _ _ => id) (fun _ => id)).keep k3 (fun i hi e => by rw [show i = bb from e, HW2.out.kb] at hi; cases hi) (fun _ => id))
          clear tb o3 g3 k3 l0 l1 l2 l3 l4 l5 RA0
          by_cases he : er = 0
          · have hb20 : (er != 0) = false := by simp [he]
            have hpk3 : P = ({ S with bs := ob, cnt := S.cnt + 1, acts := S.acts.set k ⟨some (m.step an.b), false⟩, tr := S.tr ++ [⟨pk, k, pn, A, an⟩] }, ⟨pk, k, pn, A, an⟩, 0) := by
              rw [HP.out, HPK2.out, if_pos (show (cpMac.want m).err S.bs.length = 0 by show m.want.err S.bs.length = 0; rw [← HA.out, ← HER.out]; exact he), HOB.out, HAN.out]
              unfold AA.outE AA.ansE
              rw [if_pos (by rw [← HER.out]; exact he), if_pos (by rw [← HER.out]; exact he), HA.out]
              rfl
            have HPK3 := Lib.hid hpk3
            have HAL := Lib.hid (show an.b.length ≤ 8 by rw [HAN.out]; unfold AA.ansE; rw [if_pos (by rw [← HER.out]; exact he), HA.out]; exact want_len (M := cpMac) (by show m.want.wf; rw [← HA.out]; exact HWF.out) (by show m.want.err S.bs.length = 0; rw [← HA.out, ← HER.out]; exact he))
            have HOK := Lib.hid (show AN.ok A an by rw [HAN.out]; unfold AA.ansE; rw [if_pos (by rw [← HER.out]; exact he)]; exact AA.ans_ok HW2.out.isb (by rw [← HER.out]; exact he))
            have HW3 := Lib.hid (show RoIn wc κ R bb (.slice (some ⟨g, 0, none⟩) J.length jcap) tv J { S with bs := ob } from HW2.out.bytes K3.out ob (by rw [HOB.out]; exact AA.outE_len _ _) G3.out (by rw [HOB.out]; unfold AA.outE; rw [if_pos (by rw [← HER.out]; exact he)]; exact AA.out_is HW2.out.isb HWF.out.b))
            have d4 : wc.cell? ⟨g, k * 6 + 4, none⟩ = some (.slice ta jT.length tn) := HCLc.out 4 _ rfl
            have fd4 := HFRc.out (k * 6 + 4)
            obtain ⟨u0, u1, u2⟩ := TB3.out.c3
            have HZ3 := Lib.hid z3
            have HZ2 := Lib.hid z2
            have HZ1 := Lib.hid z1
            have hgT : g ≠ Tq := fun e => by omega
            clear hpk3 he z1 z2 z3
            obtain ⟨j0, ji, jz0, jz1, jz2⟩ := info_parts ansinfo
            have GLC := Lib.hid glc
            have TLT := Lib.hid tlt
            have HGT := Lib.hid hgT
            have AN3 := Lib.hid (show AnT wc (fun i => κ i = .tb) (.slice ta jT.length tn) jT from JIN3.out.an)
            have ALT := Lib.hid (show ∀ i, κ i = .tb → i < wc.heap.size from fun i hi => HW3.out.all i (by rw [hi]; nofun))
            have hjl : jT.length ≤ 99999 := by omega
            have zz3 : w3.heap.size ≤ wc.heap.size := by have := HZ1.out; have := HZ2.out; have := HZ3.out; omega
            have hfin : ∀ (v9 : Value) (x9 : World), Below wc.heap.size wc x9 → x9.ownsRow 0 49 3 v9 (jT.length + 1) (jT.flatMap anC ++ [.int .u64 an.v, .bool an.d, .slice q0 ql qc]) → (∀ i, v9.ownBlock = some i → wc.heap.size ≤ i) → ∃ κ5, (∀ i, i < w3.heap.size → κ5 i = κ i) ∧ (∀ i, w3.heap.size ≤ i → i < wc.heap.size → κ5 i = .tb) ∧ RoIn (x9.setCell ⟨g, k * 6 + 4, none⟩ v9) κ5 R bb (.slice (some ⟨g, 0, none⟩) J.length jcap) tv (J.set k ⟨jk, jA, jn, .slice sa sl sc, jb, v9, jT ++ [⟨an.v, an.d, .slice q0 ql qc, an.b⟩], false⟩) { S with bs := ob, acts := S.acts.set k (JbS.ac ⟨jk, jA, jn, .slice sa sl sc, jb, v9, jT ++ [⟨an.v, an.d, .slice q0 ql qc, an.b⟩], false⟩) } ∧ Keep (· = g) wc (x9.setCell ⟨g, k * 6 + 4, none⟩ v9) := by
              intro v9 x9 b9 o9 h9
              have zb := b9.size
              have H5 := (HW3.out.below b9).more (fun i => decide (w3.heap.size ≤ i ∧ i < x9.heap.size)) (fun i hi => by have hi := of_decide_eq_true hi; exact ⟨H.out.no_big (by omega), hi.2⟩)
              obtain ⟨κ5, hκ⟩ : ∃ κ5, κ5 = kdX κ (fun i => decide (w3.heap.size ≤ i ∧ i < x9.heap.size)) := ⟨_, rfl⟩
              rw [← hκ] at H5
              have k1 : ∀ i, i < w3.heap.size → κ5 i = κ i := fun i hi => by rw [hκ]; unfold kdX; rw [if_neg (by simp; omega)]
              have k2 : ∀ i, w3.heap.size ≤ i → i < x9.heap.size → κ5 i = .tb := fun i h1 h2 => by rw [hκ]; unfold kdX; rw [if_pos (by simp; omega)]
              have k3 : ∀ i, κ i = .tb → κ5 i = .tb := fun i hi => (k1 i (by have := H.out.all i (by rw [hi]; nofun); omega)).trans hi
              have hA : AnT x9 (fun i => κ5 i = .tb) v9 (jT ++ [⟨an.v, an.d, .slice q0 ql qc, an.b⟩]) := by
                refine ⟨by rw [List.length_append, List.flatMap_append]; simpa [anC] using o9, fun i hi => k2 i (by have := h9 i hi; omega) (World.ownsRow.lt o9 i hi).2, fun x hx => ?_⟩
                rcases List.mem_append.1 hx with hx | hx
                · obtain ⟨e1, e2, e3, e4⟩ := AN3.out.els x hx
                  exact ⟨e1, e2.below b9, fun i hi => k3 i (e3 i hi), e4⟩
                · obtain rfl := List.mem_singleton.1 hx
                  refine ⟨⟨_, _, _, rfl⟩, O3.out.rd.below b9, fun i hi => k2 i (by have := (World.ownsRow.lt O3.out i hi).1; have := HZ1.out; have := HZ2.out; omega) (by have := (World.ownsRow.lt O3.out i hi).2; omega), ?_⟩
                  show an.b.length ≤ 1000
                  have := HAL.out
                  omega
              have hJ' : JbS.In x9 κ5 ⟨jk, jA, jn, .slice sa sl sc, jb, v9, jT ++ [⟨an.v, an.d, .slice q0 ql qc, an.b⟩], false⟩ := (JIN3.out.keep (Below.keeps (M := fun _ => False) b9) (fun _ _ => id) k3).told v9 ⟨an.v, an.d, .slice q0 ql qc, an.b⟩ hA (by
                rw [← HM.out]
                exact (show m.Fine by rw [HM.out]; exact JIN.out.fine).step HLV.out (x := an) (by rw [← HA.out]; exact HOK.out))
              have H6 := H5.turn HJ.out (j' := ⟨jk, jA, jn, .slice sa sl sc, jb, v9, jT ++ [⟨an.v, an.d, .slice q0 ql qc, an.b⟩], false⟩) rfl 4 v9 (by decide) rfl hJ'
              refine ⟨κ5, k1, fun i h1 h2 => k2 i h1 (by omega), H6, Keep.setCell (M := (· = g)) (Below.keeps b9) (p := ⟨g, k * 6 + 4, none⟩) (.inl rfl) _⟩
            have FIN23 := Lib.hid hfin
            clear hfin
            go_upto_region 23 with fail
            go_cut [] from 98 to 109 (fun wx => ∃ v9, ∃ κ5, (∀ i, i < w3.heap.size → κ5 i = κ i) ∧ (∀ i, w3.heap.size ≤ i → i < wc.heap.size → κ5 i = .tb) ∧ RoIn wx κ5 R bb (.slice (some ⟨g, 0, none⟩) J.length jcap) tv (J.set k ⟨jk, jA, jn, .slice sa sl sc, jb, v9, jT ++ [⟨an.v, an.d, .slice q0 ql qc, an.b⟩], false⟩) { S with bs := ob, acts := S.acts.set k (JbS.ac ⟨jk, jA, jn, .slice sa sl sc, jb, v9, jT ++ [⟨an.v, an.d, .slice q0 ql qc, an.b⟩], false⟩) } ∧ Keep (· = g) wc wx)
            case first =>
              refine wp_region_held_drew (S := fun w' => w'.cell? ⟨Tq, 0, none⟩ = some (.int .u64 an.v) ∧ w'.cell? ⟨Tq, 1, none⟩ = some (.bool an.d) ∧ w'.cell? ⟨Tq, 2, none⟩ = some (.slice q0 ql qc)) (by kernel_rfl) ?_ (fun hHeld => ?_)
              · try dsimp only
                exact ⟨u0, u1, u2⟩
              obtain ⟨x0, hx⟩ : ∃ x0 : World, x0 = wc.drew := ⟨_, rfl⟩
              rw [← hx] at hHeld ⊢
              have b : Below wc.heap.size wc x0 := by rw [hx]; exact bel_drewN 1 (Below.refl _ _)
              have HX0 := Lib.hid (show x0.heap.size = wc.heap.size by rw [hx]; rfl)
              have BX := Lib.hid b
              have TBx := Lib.hid (TB3.out.below b TB3.out.lt)
              have ANX := Lib.hid (AN3.out.below b)
              have D4 := Lib.hid d4
              have FD4 := Lib.hid fd4
              have d4' : x0.cell? ⟨g, k * 6 + 4, none⟩ = some (.slice ta jT.length tn) := (b.cell (p := ⟨g, k * 6 + 4, none⟩) (by show g < _; exact GLC.out)).trans D4.out
              clear d4 fd4 hx b u0 u1 u2
              have d4 := d4'
              clear d4'
              obtain ⟨u0, u1, u2⟩ : x0.cell? ⟨Tq, 0, none⟩ = some (.int .u64 an.v) ∧ x0.cell? ⟨Tq, 1, none⟩ = some (.bool an.d) ∧ x0.cell? ⟨Tq, 2, none⟩ = some (.slice q0 ql qc) := TBx.out.c3
              refine wpAnyH_take (i := 0) (v := ?_) rfl (by kernel_rfl) (by kernel_rfl) (by kernel_rfl) (fun _ _ _ h => h) (Or.inl ⟨by rfl, ?_⟩) (by assumption) ?_
              rotate_left
              · intro w0 hSw
                (try dsimp only at hSw)
                go_simp
                try with_reducible rfl
              try simp only [Act.put, List.getElem_toArray, List.getElem_cons_zero, List.getElem_cons_succ, List.setIfInBounds_toArray, List.set_cons_zero, List.set_cons_succ]
              refine wpAnyH_take (i := 2) (v := ?_) rfl (by kernel_rfl) (by kernel_rfl) (by kernel_rfl) (fun _ _ _ h => h) (Or.inl ⟨by rfl, ?_⟩) (by assumption) ?_
              rotate_left
              · intro w0 hSw
                (try dsimp only at hSw)
                go_simp
                try with_reducible rfl
              try simp only [Act.put, List.getElem_toArray, List.getElem_cons_zero, List.getElem_cons_succ, List.setIfInBounds_toArray, List.set_cons_zero, List.set_cons_succ]
              refine wpAnyH_take (i := 3) (v := ?_) rfl (by kernel_rfl) (by kernel_rfl) (by kernel_rfl) (fun _ _ _ h => h) (Or.inl ⟨by rfl, ?_⟩) (by assumption) ?_
              rotate_left
              · intro w0 hSw
                (try dsimp only at hSw)
                go_simp
                try with_reducible rfl
              try simp only [Act.put, List.getElem_toArray, List.getElem_cons_zero, List.getElem_cons_succ, List.setIfInBounds_toArray, List.set_cons_zero, List.set_cons_succ]
              refine wpAnyH_take (i := 4) (v := ?_) rfl (by kernel_rfl) (by kernel_rfl) (by kernel_rfl) (fun _ _ _ h => h) (Or.inl ⟨by rfl, ?_⟩) (by assumption) ?_
              rotate_left
              · intro w0 hSw
                (try dsimp only at hSw)
                go_simp
                try with_reducible rfl
              try simp only [Act.put, List.getElem_toArray, List.getElem_cons_zero, List.getElem_cons_succ, List.setIfInBounds_toArray, List.set_cons_zero, List.set_cons_succ]
              refine wpAnyH_take (i := 7) (v := ?_) rfl (by kernel_rfl) (by kernel_rfl) (by kernel_rfl) (fun _ _ _ h => h) (Or.inl ⟨by rfl, ?_⟩) (by assumption) ?_
              rotate_left
              · intro w0 hSw
                (try dsimp only at hSw)
                go_simp
                try with_reducible rfl
              try simp only [Act.put, List.getElem_toArray, List.getElem_cons_zero, List.getElem_cons_succ, List.setIfInBounds_toArray, List.set_cons_zero, List.set_cons_succ]
              refine wpAnyH_ready (rs := [1, 5, 8]) (by kernel_rfl) (by simp) ?_
              refine AllReadyH.cons rfl (fun K hK => ?_) (AllReadyH.cons rfl (fun K hK => ?_) (AllReadyH.cons rfl (fun K hK => ?_) AllReadyH.nil))
              · go_simp
                refine hK.out _ _ ?_ (fun hHeld => ?_)
                · try dsimp only
                  go_keep
                clear hK K
                try simp only [Act.put, List.getElem_toArray, List.getElem_cons_zero, List.getElem_cons_succ, List.setIfInBounds_toArray, List.set_cons_zero, List.set_cons_succ]
                obtain ⟨x1, hx⟩ : ∃ xn : World, xn = x0.alloc (Obj.cells #[] 49) := ⟨_, rfl⟩
                rw [← hx]
                have b : Below x0.heap.size x0 x1 := by rw [hx]; exact (Below.refl _ _).alloc (Nat.le_refl _) _
                have ZX := Lib.hid (show x1.heap.size = x0.heap.size + 1 by rw [hx]; simp)
                have hxo := BX.out.size
                have BX := Lib.hid (BX.out.trans (b.mono BX.out.size))
                have TBx := Lib.hid (TBx.out.below b TBx.out.lt)
                have d4 : x1.cell? ⟨g, k * 6 + 4, none⟩ = some (.slice ta jT.length tn) := (BX.out.cell (p := ⟨g, k * 6 + 4, none⟩) (by show g < _; exact GLC.out)).trans D4.out
                have ANX := Lib.hid (ANX.out.below b)
                have EM := Lib.hid (show x1.ownsRow 0 49 3 (.slice (some ⟨x0.heap.size, 0, none⟩) 0 0) 0 [] by rw [hx]; exact World.ownsRow_made x0 #[] 0 (Nat.zero_le _) (Nat.zero_le _) rfl)
                obtain ⟨eb, heb⟩ : ∃ eb, eb = x0.heap.size := ⟨_, rfl⟩
                rw [← heb] at EM ⊢
                have HEB := Lib.hid (show wc.heap.size ≤ eb ∧ eb < x1.heap.size from ⟨by rw [heb]; exact hxo, by rw [heb, ZX.out]; omega⟩)
                clear heb
                clear hx b hxo
                clear u0 u1 u2
                obtain ⟨u0, u1, u2⟩ : x1.cell? ⟨Tq, 0, none⟩ = some (.int .u64 an.v) ∧ x1.cell? ⟨Tq, 1, none⟩ = some (.bool an.d) ∧ x1.cell? ⟨Tq, 2, none⟩ = some (.slice q0 ql qc) := TBx.out.c3
                refine wpAnyH_ready (rs := [5, 8]) (by kernel_rfl) (by simp) ?_
                refine AllReadyH.cons rfl (fun K hK => ?_) (AllReadyH.cons rfl (fun K hK => ?_) AllReadyH.nil)
                · go_simp
                  refine hK.out _ _ ?_ (fun hHeld => ?_)
                  · try dsimp only
                    go_keep
                  clear hK K
                  try simp only [Act.put, List.getElem_toArray, List.getElem_cons_zero, List.getElem_cons_succ, List.setIfInBounds_toArray, List.set_cons_zero, List.set_cons_succ]
                  refine wpAnyH_ready (rs := [6, 8]) (by kernel_rfl) (by simp) ?_
                  refine AllReadyH.cons rfl (fun K hK => ?_) (AllReadyH.cons rfl (fun K hK => ?_) AllReadyH.nil)
                  · refine wp_appA (.tmp 99) (.tmp 103) rfl _ rfl EM.out _ rfl ANX.out (by omega) ?_
                    intro v6 x2 o6 g6 e6
                    have k6 := grown_keep g6
                    have c6 := k6.size
                    have h6 : ∀ i, v6.ownBlock = some i → wc.heap.size ≤ i := fun i hi => by rcases e6 with e | e; (rw [e] at hi; have : eb = i := Option.some.inj hi; have := HEB.out.1; omega); (rw [e] at hi; have := Option.some.inj hi; have := BX.out.size; omega)
                    have H6 := Lib.hid h6
                    have ne6 : ∀ i, i < wc.heap.size → ¬ ((Value.slice (some ⟨eb, 0, none⟩) 0 0).ownBlock = some i) := fun i hi e => by have : eb = i := Option.some.inj e; have := HEB.out.1; omega
                    have BX6 := Lib.hid (show Below wc.heap.size wc x2 from BX.out.trans (k6.below BX.out.size ne6))
                    have TBx := Lib.hid (TBx.out.keep k6 (ne6 _ TLT.out))
                    have d46 : x2.cell? ⟨g, k * 6 + 4, none⟩ = some (.slice ta jT.length tn) := (BX6.out.cell (p := ⟨g, k * 6 + 4, none⟩) (by show g < _; exact GLC.out)).trans D4.out
                    have A6 := Lib.hid o6
                    have ANX := Lib.hid (ANX.out.keep k6 (fun i hi e => ne6 i (ALT.out i hi) e))
                    clear u0 u1 u2
                    obtain ⟨u0, u1, u2⟩ : x2.cell? ⟨Tq, 0, none⟩ = some (.int .u64 an.v) ∧ x2.cell? ⟨Tq, 1, none⟩ = some (.bool an.d) ∧ x2.cell? ⟨Tq, 2, none⟩ = some (.slice q0 ql qc) := TBx.out.c3
                    obtain ⟨va, vl, vc, rfl⟩ := own_isSl o6
                    clear o6 g6 e6 k6 h6 ne6 d4
                    have d4 := d46
                    have BX := BX6
                    clear d46
                    refine hK.out _ _ ?_ (fun hHeld => ?_)
                    · try dsimp only
                      exact ⟨u0, u1, u2⟩
                    clear hK K
                    try simp only [Act.put, List.getElem_toArray, List.getElem_cons_zero, List.getElem_cons_succ, List.setIfInBounds_toArray, List.set_cons_zero, List.set_cons_succ]
                    refine wpAnyH_ready (rs := [8]) (by kernel_rfl) (by simp) ?_
                    refine AllReadyH.cons rfl (fun K hK => ?_) AllReadyH.nil
                    go_simp
                    refine hK.out _ _ ?_ (fun hHeld => ?_)
                    · try dsimp only
                      go_keep
                    clear hK K
                    try simp only [Act.put, List.getElem_toArray, List.getElem_cons_zero, List.getElem_cons_succ, List.setIfInBounds_toArray, List.set_cons_zero, List.set_cons_succ]
                    obtain ⟨x3, hx⟩ : ∃ xn : World, xn = x2.alloc (Obj.cells #[.int .u64 an.v, .bool an.d, .slice q0 ql qc] 49) := ⟨_, rfl⟩
                    rw [← hx]
                    have b : Below x2.heap.size x2 x3 := by rw [hx]; exact (Below.refl _ _).alloc (Nat.le_refl _) _
                    have ZX := Lib.hid (show x3.heap.size = x2.heap.size + 1 by rw [hx]; simp)
                    have hxo := BX.out.size
                    have BX := Lib.hid (BX.out.trans (b.mono BX.out.size))
                    have TBx := Lib.hid (TBx.out.below b TBx.out.lt)
                    have d4 : x3.cell? ⟨g, k * 6 + 4, none⟩ = some (.slice ta jT.length tn) := (BX.out.cell (p := ⟨g, k * 6 + 4, none⟩) (by show g < _; exact GLC.out)).trans D4.out
                    have ANX := Lib.hid (ANX.out.below b)
                    have A6 := Lib.hid (ownsRow_keep A6.out (Below.keeps (M := fun _ => False) b) (fun _ _ => id))
                    have NB := Lib.hid (show Blk x3 x2.heap.size [.int .u64 an.v, .bool an.d, .slice q0 ql qc] by rw [hx]; exact Blk.made x2 _ _)
                    obtain ⟨gb, hgb'⟩ : ∃ gb, gb = x2.heap.size := ⟨_, rfl⟩
                    rw [← hgb'] at NB ⊢
                    have HGB := Lib.hid (show wc.heap.size ≤ gb ∧ gb < x3.heap.size from ⟨by rw [hgb']; exact hxo, by rw [hgb', ZX.out]; omega⟩)
                    clear hgb'
                    clear hx b hxo
                    clear u0 u1 u2
                    obtain ⟨u0, u1, u2⟩ : x3.cell? ⟨Tq, 0, none⟩ = some (.int .u64 an.v) ∧ x3.cell? ⟨Tq, 1, none⟩ = some (.bool an.d) ∧ x3.cell? ⟨Tq, 2, none⟩ = some (.slice q0 ql qc) := TBx.out.c3
                    refine wpAnyH_ready (rs := [9]) (by kernel_rfl) (by simp) ?_
                    refine AllReadyH.cons rfl (fun K hK => ?_) AllReadyH.nil
                    refine wp_app1 (.tmp 104) (.tmp 106) 59 49 rfl Try.underlying59 ji jz0 jz1 jz2 rfl (by decide) _ _ _ rfl A6.out gb [.int .u64 an.v, .bool an.d, .slice q0 ql qc] rfl NB.out rfl (by intro u hu; simp only [List.mem_cons, List.not_mem_nil, or_false] at hu; rcases hu with rfl | rfl | rfl <;> rfl) (by omega) (by unfold maxLen; omega) ?_
                    intro v9 x9 o9 g9 e9
                    have k9 := grown_keep g9
                    have c9 := k9.size
                    have h9 : ∀ i, v9.ownBlock = some i → wc.heap.size ≤ i := fun i hi => by rcases e9 with e | e; (rw [e] at hi; exact H6.out i hi); (rw [e] at hi; have := Option.some.inj hi; have := BX.out.size; omega)
                    have ne9 : ∀ i, i < wc.heap.size → ¬ ((Value.slice va vl vc).ownBlock = some i) := fun i hi e => by have := H6.out i e; omega
                    have BX9 := Lib.hid (show Below wc.heap.size wc x9 from BX.out.trans (k9.below BX.out.size ne9))
                    have TBx := Lib.hid (TBx.out.keep k9 (ne9 _ TLT.out))
                    have d49 : x9.cell? ⟨g, k * 6 + 4, none⟩ = some (.slice ta jT.length tn) := (BX9.out.cell (p := ⟨g, k * 6 + 4, none⟩) (by show g < _; exact GLC.out)).trans D4.out
                    have fd49 : x9.frozen? ⟨g, k * 6 + 4, none⟩ = false := (BX9.out.frozen (p := ⟨g, k * 6 + 4, none⟩) (by show g < _; exact GLC.out)).trans FD4.out
                    have O9 := Lib.hid o9
                    have H9 := Lib.hid h9
                    clear u0 u1 u2
                    obtain ⟨u0, u1, u2⟩ : x9.cell? ⟨Tq, 0, none⟩ = some (.int .u64 an.v) ∧ x9.cell? ⟨Tq, 1, none⟩ = some (.bool an.d) ∧ x9.cell? ⟨Tq, 2, none⟩ = some (.slice q0 ql qc) := TBx.out.c3
                    obtain ⟨v9a, v9l, v9c, rfl⟩ := own_isSl o9
                    clear o9 g9 e9 k9 h9 ne9 d4
                    refine hK.out _ _ ?_ (fun hHeld => ?_)
                    · try dsimp only
                      exact ⟨u0, u1, u2⟩
                    clear hK K
                    try simp only [Act.put, List.getElem_toArray, List.getElem_cons_zero, List.getElem_cons_succ, List.setIfInBounds_toArray, List.set_cons_zero, List.set_cons_succ]
                    refine wpAnyH_take (i := 10) (v := ?_) rfl (by kernel_rfl) (by kernel_rfl) (by kernel_rfl) (fun _ _ _ h => h) (Or.inl ⟨by rfl, ?_⟩) (by assumption) ?_
                    rotate_left
                    · intro w0 hSw
                      (try dsimp only at hSw)
                      go_simp
                      try with_reducible rfl
                    try simp only [Act.put, List.getElem_toArray, List.getElem_cons_zero, List.getElem_cons_succ, List.setIfInBounds_toArray, List.set_cons_zero, List.set_cons_succ]
                    refine wpAnyH_take (i := 11) (v := ?_) rfl (by kernel_rfl) (by kernel_rfl) (by kernel_rfl) (fun _ _ _ h => h) (Or.inl ⟨by rfl, ?_⟩) (by assumption) ?_
                    rotate_left
                    · intro w0 hSw
                      (try dsimp only at hSw)
                      go_simp
                      try with_reducible rfl
                    try simp only [Act.put, List.getElem_toArray, List.getElem_cons_zero, List.getElem_cons_succ, List.setIfInBounds_toArray, List.set_cons_zero, List.set_cons_succ]
                    refine wpAnyH_ready (rs := [12]) (by kernel_rfl) (by simp) ?_
                    refine AllReadyH.cons rfl (fun K hK => ?_) AllReadyH.nil
                    go_simp
                    refine hK.out _ _ ?_ (fun hHeld => ?_)
                    · try dsimp only
                      exact (Blk.far TBx.out (a := ⟨g, k * 6 + 4, none⟩) HGT.out.symm _).c3
                    clear hK K
                    try simp only [Act.put, List.getElem_toArray, List.getElem_cons_zero, List.getElem_cons_succ, List.setIfInBounds_toArray, List.set_cons_zero, List.set_cons_succ]
                    refine wpAnyH_done (by kernel_rfl) ?_ _
                    go_wp2_with fail
                    go_meet
                    exact ⟨_, FIN23.out _ _ BX9.out O9.out H9.out⟩
                  · go_simp
                    refine hK.out _ _ ?_ (fun hHeld => ?_)
                    · try dsimp only
                      go_keep
                    clear hK K
                    try simp only [Act.put, List.getElem_toArray, List.getElem_cons_zero, List.getElem_cons_succ, List.setIfInBounds_toArray, List.set_cons_zero, List.set_cons_succ]
                    obtain ⟨x2, hx⟩ : ∃ xn : World, xn = x1.alloc (Obj.cells #[.int .u64 an.v, .bool an.d, .slice q0 ql qc] 49) := ⟨_, rfl⟩
                    rw [← hx]
                    have b : Below x1.heap.size x1 x2 := by rw [hx]; exact (Below.refl _ _).alloc (Nat.le_refl _) _
                    have ZX := Lib.hid (show x2.heap.size = x1.heap.size + 1 by rw [hx]; simp)
                    have hxo := BX.out.size
                    have BX := Lib.hid (BX.out.trans (b.mono BX.out.size))
                    have TBx := Lib.hid (TBx.out.below b TBx.out.lt)
                    have d4 : x2.cell? ⟨g, k * 6 + 4, none⟩ = some (.slice ta jT.length tn) := (BX.out.cell (p := ⟨g, k * 6 + 4, none⟩) (by show g < _; exact GLC.out)).trans D4.out
                    have ANX := Lib.hid (ANX.out.below b)
                    have EM := Lib.hid (ownsRow_keep EM.out (Below.keeps (M := fun _ => False) b) (fun _ _ => id))
                    have NB := Lib.hid (show Blk x2 x1.heap.size [.int .u64 an.v, .bool an.d, .slice q0 ql qc] by rw [hx]; exact Blk.made x1 _ _)
                    obtain ⟨gb, hgb'⟩ : ∃ gb, gb = x1.heap.size := ⟨_, rfl⟩
                    rw [← hgb'] at NB ⊢
                    have HGB := Lib.hid (show wc.heap.size ≤ gb ∧ gb < x2.heap.size from ⟨by rw [hgb']; exact hxo, by rw [hgb', ZX.out]; omega⟩)
                    have HEN := Lib.hid (show gb ≠ eb by have := HEB.out.2; omega)
                    clear hgb'
                    clear hx b hxo
                    clear u0 u1 u2
                    obtain ⟨u0, u1, u2⟩ : x2.cell? ⟨Tq, 0, none⟩ = some (.int .u64 an.v) ∧ x2.cell? ⟨Tq, 1, none⟩ = some (.bool an.d) ∧ x2.cell? ⟨Tq, 2, none⟩ = some (.slice q0 ql qc) := TBx.out.c3
                    refine wpAnyH_ready (rs := [6]) (by kernel_rfl) (by simp) ?_
                    refine AllReadyH.cons rfl (fun K hK => ?_) AllReadyH.nil
                    refine wp_appA (.tmp 99) (.tmp 103) rfl _ rfl EM.out _ rfl ANX.out (by omega) ?_
                    intro v6 x3 o6 g6 e6
                    have k6 := grown_keep g6
                    have c6 := k6.size
                    have h6 : ∀ i, v6.ownBlock = some i → wc.heap.size ≤ i := fun i hi => by rcases e6 with e | e; (rw [e] at hi; have : eb = i := Option.some.inj hi; have := HEB.out.1; omega); (rw [e] at hi; have := Option.some.inj hi; have := BX.out.size; omega)
                    have H6 := Lib.hid h6
                    have ne6 : ∀ i, i < wc.heap.size → ¬ ((Value.slice (some ⟨eb, 0, none⟩) 0 0).ownBlock = some i) := fun i hi e => by have : eb = i := Option.some.inj e; have := HEB.out.1; omega
                    have BX6 := Lib.hid (show Below wc.heap.size wc x3 from BX.out.trans (k6.below BX.out.size ne6))
                    have TBx := Lib.hid (TBx.out.keep k6 (ne6 _ TLT.out))
                    have d46 : x3.cell? ⟨g, k * 6 + 4, none⟩ = some (.slice ta jT.length tn) := (BX6.out.cell (p := ⟨g, k * 6 + 4, none⟩) (by show g < _; exact GLC.out)).trans D4.out
                    have NB := Lib.hid (NB.out.keep k6 (fun e => HEN.out (Option.some.inj e).symm))
                    have A6 := Lib.hid o6
                    have ANX := Lib.hid (ANX.out.keep k6 (fun i hi e => ne6 i (ALT.out i hi) e))
                    clear u0 u1 u2
                    obtain ⟨u0, u1, u2⟩ : x3.cell? ⟨Tq, 0, none⟩ = some (.int .u64 an.v) ∧ x3.cell? ⟨Tq, 1, none⟩ = some (.bool an.d) ∧ x3.cell? ⟨Tq, 2, none⟩ = some (.slice q0 ql qc) := TBx.out.c3
                    obtain ⟨va, vl, vc, rfl⟩ := own_isSl o6
                    clear o6 g6 e6 k6 h6 ne6 d4
                    have d4 := d46
                    have BX := BX6
                    clear d46
                    refine hK.out _ _ ?_ (fun hHeld => ?_)
                    · try dsimp only
                      exact ⟨u0, u1, u2⟩
                    clear hK K
                    try simp only [Act.put, List.getElem_toArray, List.getElem_cons_zero, List.getElem_cons_succ, List.setIfInBounds_toArray, List.set_cons_zero, List.set_cons_succ]
                    refine wpAnyH_ready (rs := [9]) (by kernel_rfl) (by simp) ?_
                    refine AllReadyH.cons rfl (fun K hK => ?_) AllReadyH.nil
                    refine wp_app1 (.tmp 104) (.tmp 106) 59 49 rfl Try.underlying59 ji jz0 jz1 jz2 rfl (by decide) _ _ _ rfl A6.out gb [.int .u64 an.v, .bool an.d, .slice q0 ql qc] rfl NB.out rfl (by intro u hu; simp only [List.mem_cons, List.not_mem_nil, or_false] at hu; rcases hu with rfl | rfl | rfl <;> rfl) (by omega) (by unfold maxLen; omega) ?_
                    intro v9 x9 o9 g9 e9
                    have k9 := grown_keep g9
                    have c9 := k9.size
                    have h9 : ∀ i, v9.ownBlock = some i → wc.heap.size ≤ i := fun i hi => by rcases e9 with e | e; (rw [e] at hi; exact H6.out i hi); (rw [e] at hi; have := Option.some.inj hi; have := BX.out.size; omega)
                    have ne9 : ∀ i, i < wc.heap.size → ¬ ((Value.slice va vl vc).ownBlock = some i) := fun i hi e => by have := H6.out i e; omega
                    have BX9 := Lib.hid (show Below wc.heap.size wc x9 from BX.out.trans (k9.below BX.out.size ne9))
                    have TBx := Lib.hid (TBx.out.keep k9 (ne9 _ TLT.out))
                    have d49 : x9.cell? ⟨g, k * 6 + 4, none⟩ = some (.slice ta jT.length tn) := (BX9.out.cell (p := ⟨g, k * 6 + 4, none⟩) (by show g < _; exact GLC.out)).trans D4.out
                    have fd49 : x9.frozen? ⟨g, k * 6 + 4, none⟩ = false := (BX9.out.frozen (p := ⟨g, k * 6 + 4, none⟩) (by show g < _; exact GLC.out)).trans FD4.out
                    have O9 := Lib.hid o9
                    have H9 := Lib.hid h9
                    clear u0 u1 u2
                    obtain ⟨u0, u1, u2⟩ : x9.cell? ⟨Tq, 0, none⟩ = some (.int .u64 an.v) ∧ x9.cell? ⟨Tq, 1, none⟩ = some (.bool an.d) ∧ x9.cell? ⟨Tq, 2, none⟩ = some (.slice q0 ql qc) := TBx.out.c3
                    obtain ⟨v9a, v9l, v9c, rfl⟩ := own_isSl o9
                    clear o9 g9 e9 k9 h9 ne9 d4
                    refine hK.out _ _ ?_ (fun hHeld => ?_)
                    · try dsimp only
                      exact ⟨u0, u1, u2⟩
                    clear hK K
                    try simp only [Act.put, List.getElem_toArray, List.getElem_cons_zero, List.getElem_cons_succ, List.setIfInBounds_toArray, List.set_cons_zero, List.set_cons_succ]
                    refine wpAnyH_take (i := 10) (v := ?_) rfl (by kernel_rfl) (by kernel_rfl) (by kernel_rfl) (fun _ _ _ h => h) (Or.inl ⟨by rfl, ?_⟩) (by assumption) ?_
                    rotate_left
                    · intro w0 hSw
                      (try dsimp only at hSw)
                      go_simp
                      try with_reducible rfl
                    try simp only [Act.put, List.getElem_toArray, List.getElem_cons_zero, List.getElem_cons_succ, List.setIfInBounds_toArray, List.set_cons_zero, List.set_cons_succ]
                    refine wpAnyH_take (i := 11) (v := ?_) rfl (by kernel_rfl) (by kernel_rfl) (by kernel_rfl) (fun _ _ _ h => h) (Or.inl ⟨by rfl, ?_⟩) (by assumption) ?_
                    rotate_left
                    · intro w0 hSw
                      (try dsimp only at hSw)
                      go_simp
                      try with_reducible rfl
                    try simp only [Act.put, List.getElem_toArray, List.getElem_cons_zero, List.getElem_cons_succ, List.setIfInBounds_toArray, List.set_cons_zero, List.set_cons_succ]
                    refine wpAnyH_ready (rs := [12]) (by kernel_rfl) (by simp) ?_
                    refine AllReadyH.cons rfl (fun K hK => ?_) AllReadyH.nil
                    go_simp
                    refine hK.out _ _ ?_ (fun hHeld => ?_)
                    · try dsimp only
                      exact (Blk.far TBx.out (a := ⟨g, k * 6 + 4, none⟩) HGT.out.symm _).c3
                    clear hK K
                    try simp only [Act.put, List.getElem_toArray, List.getElem_cons_zero, List.getElem_cons_succ, List.setIfInBounds_toArray, List.set_cons_zero, List.set_cons_succ]
                    refine wpAnyH_done (by kernel_rfl) ?_ _
                    go_wp2_with fail
                    go_meet
                    exact ⟨_, FIN23.out _ _ BX9.out O9.out H9.out⟩
                · go_simp
                  refine hK.out _ _ ?_ (fun hHeld => ?_)
                  · try dsimp only
                    go_keep
                  clear hK K
                  try simp only [Act.put, List.getElem_toArray, List.getElem_cons_zero, List.getElem_cons_succ, List.setIfInBounds_toArray, List.set_cons_zero, List.set_cons_succ]
                  obtain ⟨x2, hx⟩ : ∃ xn : World, xn = x1.alloc (Obj.cells #[.int .u64 an.v, .bool an.d, .slice q0 ql qc] 49) := ⟨_, rfl⟩
                  rw [← hx]
                  have b : Below x1.heap.size x1 x2 := by rw [hx]; exact (Below.refl _ _).alloc (Nat.le_refl _) _
                  have ZX := Lib.hid (show x2.heap.size = x1.heap.size + 1 by rw [hx]; simp)
                  have hxo := BX.out.size
                  have BX := Lib.hid (BX.out.trans (b.mono BX.out.size))
                  have TBx := Lib.hid (TBx.out.below b TBx.out.lt)
                  have d4 : x2.cell? ⟨g, k * 6 + 4, none⟩ = some (.slice ta jT.length tn) := (BX.out.cell (p := ⟨g, k * 6 + 4, none⟩) (by show g < _; exact GLC.out)).trans D4.out
                  have ANX := Lib.hid (ANX.out.below b)
                  have EM := Lib.hid (ownsRow_keep EM.out (Below.keeps (M := fun _ => False) b) (fun _ _ => id))
                  have NB := Lib.hid (show Blk x2 x1.heap.size [.int .u64 an.v, .bool an.d, .slice q0 ql qc] by rw [hx]; exact Blk.made x1 _ _)
                  obtain ⟨gb, hgb'⟩ : ∃ gb, gb = x1.heap.size := ⟨_, rfl⟩
                  rw [← hgb'] at NB ⊢
                  have HGB := Lib.hid (show wc.heap.size ≤ gb ∧ gb < x2.heap.size from ⟨by rw [hgb']; exact hxo, by rw [hgb', ZX.out]; omega⟩)
                  have HEN := Lib.hid (show gb ≠ eb by have := HEB.out.2; omega)
                  clear hgb'
                  clear hx b hxo
                  clear u0 u1 u2
                  obtain ⟨u0, u1, u2⟩ : x2.cell? ⟨Tq, 0, none⟩ = some (.int .u64 an.v) ∧ x2.cell? ⟨Tq, 1, none⟩ = some (.bool an.d) ∧ x2.cell? ⟨Tq, 2, none⟩ = some (.slice q0 ql qc) := TBx.out.c3
                  refine wpAnyH_ready (rs := [5]) (by kernel_rfl) (by simp) ?_
                  refine AllReadyH.cons rfl (fun K hK => ?_) AllReadyH.nil
                  go_simp
                  refine hK.out _ _ ?_ (fun hHeld => ?_)
                  · try dsimp only
                    go_keep
                  clear hK K
                  try simp only [Act.put, List.getElem_toArray, List.getElem_cons_zero, List.getElem_cons_succ, List.setIfInBounds_toArray, List.set_cons_zero, List.set_cons_succ]
                  refine wpAnyH_ready (rs := [6]) (by kernel_rfl) (by simp) ?_
                  refine AllReadyH.cons rfl (fun K hK => ?_) AllReadyH.nil
                  refine wp_appA (.tmp 99) (.tmp 103) rfl _ rfl EM.out _ rfl ANX.out (by omega) ?_
                  intro v6 x3 o6 g6 e6
                  have k6 := grown_keep g6
                  have c6 := k6.size
                  have h6 : ∀ i, v6.ownBlock = some i → wc.heap.size ≤ i := fun i hi => by rcases e6 with e | e; (rw [e] at hi; have : eb = i := Option.some.inj hi; have := HEB.out.1; omega); (rw [e] at hi; have := Option.some.inj hi; have := BX.out.size; omega)
                  have H6 := Lib.hid h6
                  have ne6 : ∀ i, i < wc.heap.size → ¬ ((Value.slice (some ⟨eb, 0, none⟩) 0 0).ownBlock = some i) := fun i hi e => by have : eb = i := Option.some.inj e; have := HEB.out.1; omega
                  have BX6 := Lib.hid (show Below wc.heap.size wc x3 from BX.out.trans (k6.below BX.out.size ne6))
                  have TBx := Lib.hid (TBx.out.keep k6 (ne6 _ TLT.out))
                  have d46 : x3.cell? ⟨g, k * 6 + 4, none⟩ = some (.slice ta jT.length tn) := (BX6.out.cell (p := ⟨g, k * 6 + 4, none⟩) (by show g < _; exact GLC.out)).trans D4.out
                  have NB := Lib.hid (NB.out.keep k6 (fun e => HEN.out (Option.some.inj e).symm))
                  have A6 := Lib.hid o6
                  have ANX := Lib.hid (ANX.out.keep k6 (fun i hi e => ne6 i (ALT.out i hi) e))
                  clear u0 u1 u2
                  obtain ⟨u0, u1, u2⟩ : x3.cell? ⟨Tq, 0, none⟩ = some (.int .u64 an.v) ∧ x3.cell? ⟨Tq, 1, none⟩ = some (.bool an.d) ∧ x3.cell? ⟨Tq, 2, none⟩ = some (.slice q0 ql qc) := TBx.out.c3
                  obtain ⟨va, vl, vc, rfl⟩ := own_isSl o6
                  clear o6 g6 e6 k6 h6 ne6 d4
                  have d4 := d46
                  have BX := BX6
                  clear d46
                  refine hK.out _ _ ?_ (fun hHeld => ?_)
                  · try dsimp only
                    exact ⟨u0, u1, u2⟩
                  clear hK K
                  try simp only [Act.put, List.getElem_toArray, List.getElem_cons_zero, List.getElem_cons_succ, List.setIfInBounds_toArray, List.set_cons_zero, List.set_cons_succ]
                  refine wpAnyH_ready (rs := [9]) (by kernel_rfl) (by simp) ?_
                  refine AllReadyH.cons rfl (fun K hK => ?_) AllReadyH.nil
                  refine wp_app1 (.tmp 104) (.tmp 106) 59 49 rfl Try.underlying59 ji jz0 jz1 jz2 rfl (by decide) _ _ _ rfl A6.out gb [.int .u64 an.v, .bool an.d, .slice q0 ql qc] rfl NB.out rfl (by intro u hu; simp only [List.mem_cons, List.not_mem_nil, or_false] at hu; rcases hu with rfl | rfl | rfl <;> rfl) (by omega) (by unfold maxLen; omega) ?_
                  intro v9 x9 o9 g9 e9
                  have k9 := grown_keep g9
                  have c9 := k9.size
                  have h9 : ∀ i, v9.ownBlock = some i → wc.heap.size ≤ i := fun i hi => by rcases e9 with e | e; (rw [e] at hi; exact H6.out i hi); (rw [e] at hi; have := Option.some.inj hi; have := BX.out.size; omega)
                  have ne9 : ∀ i, i < wc.heap.size → ¬ ((Value.slice va vl vc).ownBlock = some i) := fun i hi e => by have := H6.out i e; omega
                  have BX9 := Lib.hid (show Below wc.heap.size wc x9 from BX.out.trans (k9.below BX.out.size ne9))
                  have TBx := Lib.hid (TBx.out.keep k9 (ne9 _ TLT.out))
                  have d49 : x9.cell? ⟨g, k * 6 + 4, none⟩ = some (.slice ta jT.length tn) := (BX9.out.cell (p := ⟨g, k * 6 + 4, none⟩) (by show g < _; exact GLC.out)).trans D4.out
                  have fd49 : x9.frozen? ⟨g, k * 6 + 4, none⟩ = false := (BX9.out.frozen (p := ⟨g, k * 6 + 4, none⟩) (by show g < _; exact GLC.out)).trans FD4.out
                  have O9 := Lib.hid o9
                  have H9 := Lib.hid h9
                  clear u0 u1 u2
                  obtain ⟨u0, u1, u2⟩ : x9.cell? ⟨Tq, 0, none⟩ = some (.int .u64 an.v) ∧ x9.cell? ⟨Tq, 1, none⟩ = some (.bool an.d) ∧ x9.cell? ⟨Tq, 2, none⟩ = some (.slice q0 ql qc) := TBx.out.c3
                  obtain ⟨v9a, v9l, v9c, rfl⟩ := own_isSl o9
                  clear o9 g9 e9 k9 h9 ne9 d4
                  refine hK.out _ _ ?_ (fun hHeld => ?_)
                  · try dsimp only
                    exact ⟨u0, u1, u2⟩
                  clear hK K
                  try simp only [Act.put, List.getElem_toArray, List.getElem_cons_zero, List.getElem_cons_succ, List.setIfInBounds_toArray, List.set_cons_zero, List.set_cons_succ]
                  refine wpAnyH_take (i := 10) (v := ?_) rfl (by kernel_rfl) (by kernel_rfl) (by kernel_rfl) (fun _ _ _ h => h) (Or.inl ⟨by rfl, ?_⟩) (by assumption) ?_
                  rotate_left
                  · intro w0 hSw
                    (try dsimp only at hSw)
                    go_simp
                    try with_reducible rfl
                  try simp only [Act.put, List.getElem_toArray, List.getElem_cons_zero, List.getElem_cons_succ, List.setIfInBounds_toArray, List.set_cons_zero, List.set_cons_succ]
                  refine wpAnyH_take (i := 11) (v := ?_) rfl (by kernel_rfl) (by kernel_rfl) (by kernel_rfl) (fun _ _ _ h => h) (Or.inl ⟨by rfl, ?_⟩) (by assumption) ?_
                  rotate_left
                  · intro w0 hSw
                    (try dsimp only at hSw)
                    go_simp
                    try with_reducible rfl
                  try simp only [Act.put, List.getElem_toArray, List.getElem_cons_zero, List.getElem_cons_succ, List.setIfInBounds_toArray, List.set_cons_zero, List.set_cons_succ]
                  refine wpAnyH_ready (rs := [12]) (by kernel_rfl) (by simp) ?_
                  refine AllReadyH.cons rfl (fun K hK => ?_) AllReadyH.nil
                  go_simp
                  refine hK.out _ _ ?_ (fun hHeld => ?_)
                  · try dsimp only
                    exact (Blk.far TBx.out (a := ⟨g, k * 6 + 4, none⟩) HGT.out.symm _).c3
                  clear hK K
                  try simp only [Act.put, List.getElem_toArray, List.getElem_cons_zero, List.getElem_cons_succ, List.setIfInBounds_toArray, List.set_cons_zero, List.set_cons_succ]
                  refine wpAnyH_done (by kernel_rfl) ?_ _
                  go_wp2_with fail
                  go_meet
                  exact ⟨_, FIN23.out _ _ BX9.out O9.out H9.out⟩
              · go_simp
                refine hK.out _ _ ?_ (fun hHeld => ?_)
                · try dsimp only
                  go_keep
                clear hK K
                try simp only [Act.put, List.getElem_toArray, List.getElem_cons_zero, List.getElem_cons_succ, List.setIfInBounds_toArray, List.set_cons_zero, List.set_cons_succ]
                refine wpAnyH_ready (rs := [1, 8]) (by kernel_rfl) (by simp) ?_
                refine AllReadyH.cons rfl (fun K hK => ?_) (AllReadyH.cons rfl (fun K hK => ?_) AllReadyH.nil)
                · go_simp
                  refine hK.out _ _ ?_ (fun hHeld => ?_)
                  · try dsimp only
                    go_keep
                  clear hK K
                  try simp only [Act.put, List.getElem_toArray, List.getElem_cons_zero, List.getElem_cons_succ, List.setIfInBounds_toArray, List.set_cons_zero, List.set_cons_succ]
                  obtain ⟨x1, hx⟩ : ∃ xn : World, xn = x0.alloc (Obj.cells #[] 49) := ⟨_, rfl⟩
                  rw [← hx]
                  have b : Below x0.heap.size x0 x1 := by rw [hx]; exact (Below.refl _ _).alloc (Nat.le_refl _) _
                  have ZX := Lib.hid (show x1.heap.size = x0.heap.size + 1 by rw [hx]; simp)
                  have hxo := BX.out.size
                  have BX := Lib.hid (BX.out.trans (b.mono BX.out.size))
                  have TBx := Lib.hid (TBx.out.below b TBx.out.lt)
                  have d4 : x1.cell? ⟨g, k * 6 + 4, none⟩ = some (.slice ta jT.length tn) := (BX.out.cell (p := ⟨g, k * 6 + 4, none⟩) (by show g < _; exact GLC.out)).trans D4.out
                  have ANX := Lib.hid (ANX.out.below b)
                  have EM := Lib.hid (show x1.ownsRow 0 49 3 (.slice (some ⟨x0.heap.size, 0, none⟩) 0 0) 0 [] by rw [hx]; exact World.ownsRow_made x0 #[] 0 (Nat.zero_le _) (Nat.zero_le _) rfl)
                  obtain ⟨eb, heb⟩ : ∃ eb, eb = x0.heap.size := ⟨_, rfl⟩
                  rw [← heb] at EM ⊢
                  have HEB := Lib.hid (show wc.heap.size ≤ eb ∧ eb < x1.heap.size from ⟨by rw [heb]; exact hxo, by rw [heb, ZX.out]; omega⟩)
                  clear heb
                  clear hx b hxo
                  clear u0 u1 u2
                  obtain ⟨u0, u1, u2⟩ : x1.cell? ⟨Tq, 0, none⟩ = some (.int .u64 an.v) ∧ x1.cell? ⟨Tq, 1, none⟩ = some (.bool an.d) ∧ x1.cell? ⟨Tq, 2, none⟩ = some (.slice q0 ql qc) := TBx.out.c3
                  refine wpAnyH_ready (rs := [6, 8]) (by kernel_rfl) (by simp) ?_
                  refine AllReadyH.cons rfl (fun K hK => ?_) (AllReadyH.cons rfl (fun K hK => ?_) AllReadyH.nil)
                  · refine wp_appA (.tmp 99) (.tmp 103) rfl _ rfl EM.out _ rfl ANX.out (by omega) ?_
                    intro v6 x2 o6 g6 e6
                    have k6 := grown_keep g6
                    have c6 := k6.size
                    have h6 : ∀ i, v6.ownBlock = some i → wc.heap.size ≤ i := fun i hi => by rcases e6 with e | e; (rw [e] at hi; have : eb = i := Option.some.inj hi; have := HEB.out.1; omega); (rw [e] at hi; have := Option.some.inj hi; have := BX.out.size; omega)
                    have H6 := Lib.hid h6
                    have ne6 : ∀ i, i < wc.heap.size → ¬ ((Value.slice (some ⟨eb, 0, none⟩) 0 0).ownBlock = some i) := fun i hi e => by have : eb = i := Option.some.inj e; have := HEB.out.1; omega
                    have BX6 := Lib.hid (show Below wc.heap.size wc x2 from BX.out.trans (k6.below BX.out.size ne6))
                    have TBx := Lib.hid (TBx.out.keep k6 (ne6 _ TLT.out))
                    have d46 : x2.cell? ⟨g, k * 6 + 4, none⟩ = some (.slice ta jT.length tn) := (BX6.out.cell (p := ⟨g, k * 6 + 4, none⟩) (by show g < _; exact GLC.out)).trans D4.out
                    have A6 := Lib.hid o6
                    have ANX := Lib.hid (ANX.out.keep k6 (fun i hi e => ne6 i (ALT.out i hi) e))
                    clear u0 u1 u2
                    obtain ⟨u0, u1, u2⟩ : x2.cell? ⟨Tq, 0, none⟩ = some (.int .u64 an.v) ∧ x2.cell? ⟨Tq, 1, none⟩ = some (.bool an.d) ∧ x2.cell? ⟨Tq, 2, none⟩ = some (.slice q0 ql qc) := TBx.out.c3
                    obtain ⟨va, vl, vc, rfl⟩ := own_isSl o6
                    clear o6 g6 e6 k6 h6 ne6 d4
                    have d4 := d46
                    have BX := BX6
                    clear d46
                    refine hK.out _ _ ?_ (fun hHeld => ?_)
                    · try dsimp only
                      exact ⟨u0, u1, u2⟩
                    clear hK K
                    try simp only [Act.put, List.getElem_toArray, List.getElem_cons_zero, List.getElem_cons_succ, List.setIfInBounds_toArray, List.set_cons_zero, List.set_cons_succ]
                    refine wpAnyH_ready (rs := [8]) (by kernel_rfl) (by simp) ?_
                    refine AllReadyH.cons rfl (fun K hK => ?_) AllReadyH.nil
                    go_simp
                    refine hK.out _ _ ?_ (fun hHeld => ?_)
                    · try dsimp only
                      go_keep
                    clear hK K
                    try simp only [Act.put, List.getElem_toArray, List.getElem_cons_zero, List.getElem_cons_succ, List.setIfInBounds_toArray, List.set_cons_zero, List.set_cons_succ]
                    obtain ⟨x3, hx⟩ : ∃ xn : World, xn = x2.alloc (Obj.cells #[.int .u64 an.v, .bool an.d, .slice q0 ql qc] 49) := ⟨_, rfl⟩
                    rw [← hx]
                    have b : Below x2.heap.size x2 x3 := by rw [hx]; exact (Below.refl _ _).alloc (Nat.le_refl _) _
                    have ZX := Lib.hid (show x3.heap.size = x2.heap.size + 1 by rw [hx]; simp)
                    have hxo := BX.out.size
                    have BX := Lib.hid (BX.out.trans (b.mono BX.out.size))
                    have TBx := Lib.hid (TBx.out.below b TBx.out.lt)
                    have d4 : x3.cell? ⟨g, k * 6 + 4, none⟩ = some (.slice ta jT.length tn) := (BX.out.cell (p := ⟨g, k * 6 + 4, none⟩) (by show g < _; exact GLC.out)).trans D4.out
                    have ANX := Lib.hid (ANX.out.below b)
                    have A6 := Lib.hid (ownsRow_keep A6.out (Below.keeps (M := fun _ => False) b) (fun _ _ => id))
                    have NB := Lib.hid (show Blk x3 x2.heap.size [.int .u64 an.v, .bool an.d, .slice q0 ql qc] by rw [hx]; exact Blk.made x2 _ _)
                    obtain ⟨gb, hgb'⟩ : ∃ gb, gb = x2.heap.size := ⟨_, rfl⟩
                    rw [← hgb'] at NB ⊢
                    have HGB := Lib.hid (show wc.heap.size ≤ gb ∧ gb < x3.heap.size from ⟨by rw [hgb']; exact hxo, by rw [hgb', ZX.out]; omega⟩)
                    clear hgb'
                    clear hx b hxo
                    clear u0 u1 u2
                    obtain ⟨u0, u1, u2⟩ : x3.cell? ⟨Tq, 0, none⟩ = some (.int .u64 an.v) ∧ x3.cell? ⟨Tq, 1, none⟩ = some (.bool an.d) ∧ x3.cell? ⟨Tq, 2, none⟩ = some (.slice q0 ql qc) := TBx.out.c3
                    refine wpAnyH_ready (rs := [9]) (by kernel_rfl) (by simp) ?_
                    refine AllReadyH.cons rfl (fun K hK => ?_) AllReadyH.nil
                    refine wp_app1 (.tmp 104) (.tmp 106) 59 49 rfl Try.underlying59 ji jz0 jz1 jz2 rfl (by decide) _ _ _ rfl A6.out gb [.int .u64 an.v, .bool an.d, .slice q0 ql qc] rfl NB.out rfl (by intro u hu; simp only [List.mem_cons, List.not_mem_nil, or_false] at hu; rcases hu with rfl | rfl | rfl <;> rfl) (by omega) (by unfold maxLen; omega) ?_
                    intro v9 x9 o9 g9 e9
                    have k9 := grown_keep g9
                    have c9 := k9.size
                    have h9 : ∀ i, v9.ownBlock = some i → wc.heap.size ≤ i := fun i hi => by rcases e9 with e | e; (rw [e] at hi; exact H6.out i hi); (rw [e] at hi; have := Option.some.inj hi; have := BX.out.size; omega)
                    have ne9 : ∀ i, i < wc.heap.size → ¬ ((Value.slice va vl vc).ownBlock = some i) := fun i hi e => by have := H6.out i e; omega
                    have BX9 := Lib.hid (show Below wc.heap.size wc x9 from BX.out.trans (k9.below BX.out.size ne9))
                    have TBx := Lib.hid (TBx.out.keep k9 (ne9 _ TLT.out))
                    have d49 : x9.cell? ⟨g, k * 6 + 4, none⟩ = some (.slice ta jT.length tn) := (BX9.out.cell (p := ⟨g, k * 6 + 4, none⟩) (by show g < _; exact GLC.out)).trans D4.out
                    have fd49 : x9.frozen? ⟨g, k * 6 + 4, none⟩ = false := (BX9.out.frozen (p := ⟨g, k * 6 + 4, none⟩) (by show g < _; exact GLC.out)).trans FD4.out
                    have O9 := Lib.hid o9
                    have H9 := Lib.hid h9
                    clear u0 u1 u2
                    obtain ⟨u0, u1, u2⟩ : x9.cell? ⟨Tq, 0, none⟩ = some (.int .u64 an.v) ∧ x9.cell? ⟨Tq, 1, none⟩ = some (.bool an.d) ∧ x9.cell? ⟨Tq, 2, none⟩ = some (.slice q0 ql qc) := TBx.out.c3
                    obtain ⟨v9a, v9l, v9c, rfl⟩ := own_isSl o9
                    clear o9 g9 e9 k9 h9 ne9 d4
                    refine hK.out _ _ ?_ (fun hHeld => ?_)
                    · try dsimp only
                      exact ⟨u0, u1, u2⟩
                    clear hK K
                    try simp only [Act.put, List.getElem_toArray, List.getElem_cons_zero, List.getElem_cons_succ, List.setIfInBounds_toArray, List.set_cons_zero, List.set_cons_succ]
                    refine wpAnyH_take (i := 10) (v := ?_) rfl (by kernel_rfl) (by kernel_rfl) (by kernel_rfl) (fun _ _ _ h => h) (Or.inl ⟨by rfl, ?_⟩) (by assumption) ?_
                    rotate_left
                    · intro w0 hSw
                      (try dsimp only at hSw)
                      go_simp
                      try with_reducible rfl
                    try simp only [Act.put, List.getElem_toArray, List.getElem_cons_zero, List.getElem_cons_succ, List.setIfInBounds_toArray, List.set_cons_zero, List.set_cons_succ]
                    refine wpAnyH_take (i := 11) (v := ?_) rfl (by kernel_rfl) (by kernel_rfl) (by kernel_rfl) (fun _ _ _ h => h) (Or.inl ⟨by rfl, ?_⟩) (by assumption) ?_
                    rotate_left
                    · intro w0 hSw
                      (try dsimp only at hSw)
                      go_simp
                      try with_reducible rfl
                    try simp only [Act.put, List.getElem_toArray, List.getElem_cons_zero, List.getElem_cons_succ, List.setIfInBounds_toArray, List.set_cons_zero, List.set_cons_succ]
                    refine wpAnyH_ready (rs := [12]) (by kernel_rfl) (by simp) ?_
                    refine AllReadyH.cons rfl (fun K hK => ?_) AllReadyH.nil
                    go_simp
                    refine hK.out _ _ ?_ (fun hHeld => ?_)
                    · try dsimp only
                      exact (Blk.far TBx.out (a := ⟨g, k * 6 + 4, none⟩) HGT.out.symm _).c3
                    clear hK K
                    try simp only [Act.put, List.getElem_toArray, List.getElem_cons_zero, List.getElem_cons_succ, List.setIfInBounds_toArray, List.set_cons_zero, List.set_cons_succ]
                    refine wpAnyH_done (by kernel_rfl) ?_ _
                    go_wp2_with fail
                    go_meet
                    exact ⟨_, FIN23.out _ _ BX9.out O9.out H9.out⟩
                  · go_simp
                    refine hK.out _ _ ?_ (fun hHeld => ?_)
                    · try dsimp only
                      go_keep
                    clear hK K
                    try simp only [Act.put, List.getElem_toArray, List.getElem_cons_zero, List.getElem_cons_succ, List.setIfInBounds_toArray, List.set_cons_zero, List.set_cons_succ]
                    obtain ⟨x2, hx⟩ : ∃ xn : World, xn = x1.alloc (Obj.cells #[.int .u64 an.v, .bool an.d, .slice q0 ql qc] 49) := ⟨_, rfl⟩
                    rw [← hx]
                    have b : Below x1.heap.size x1 x2 := by rw [hx]; exact (Below.refl _ _).alloc (Nat.le_refl _) _
                    have ZX := Lib.hid (show x2.heap.size = x1.heap.size + 1 by rw [hx]; simp)
                    have hxo := BX.out.size
                    have BX := Lib.hid (BX.out.trans (b.mono BX.out.size))
                    have TBx := Lib.hid (TBx.out.below b TBx.out.lt)
                    have d4 : x2.cell? ⟨g, k * 6 + 4, none⟩ = some (.slice ta jT.length tn) := (BX.out.cell (p := ⟨g, k * 6 + 4, none⟩) (by show g < _; exact GLC.out)).trans D4.out
                    have ANX := Lib.hid (ANX.out.below b)
                    have EM := Lib.hid (ownsRow_keep EM.out (Below.keeps (M := fun _ => False) b) (fun _ _ => id))
                    have NB := Lib.hid (show Blk x2 x1.heap.size [.int .u64 an.v, .bool an.d, .slice q0 ql qc] by rw [hx]; exact Blk.made x1 _ _)
                    obtain ⟨gb, hgb'⟩ : ∃ gb, gb = x1.heap.size := ⟨_, rfl⟩
                    rw [← hgb'] at NB ⊢
                    have HGB := Lib.hid (show wc.heap.size ≤ gb ∧ gb < x2.heap.size from ⟨by rw [hgb']; exact hxo, by rw [hgb', ZX.out]; omega⟩)
                    have HEN := Lib.hid (show gb ≠ eb by have := HEB.out.2; omega)
                    clear hgb'
                    clear hx b hxo
                    clear u0 u1 u2
                    obtain ⟨u0, u1, u2⟩ : x2.cell? ⟨Tq, 0, none⟩ = some (.int .u64 an.v) ∧ x2.cell? ⟨Tq, 1, none⟩ = some (.bool an.d) ∧ x2.cell? ⟨Tq, 2, none⟩ = some (.slice q0 ql qc) := TBx.out.c3
                    refine wpAnyH_ready (rs := [6]) (by kernel_rfl) (by simp) ?_
                    refine AllReadyH.cons rfl (fun K hK => ?_) AllReadyH.nil
                    refine wp_appA (.tmp 99) (.tmp 103) rfl _ rfl EM.out _ rfl ANX.out (by omega) ?_
                    intro v6 x3 o6 g6 e6
                    have k6 := grown_keep g6
                    have c6 := k6.size
                    have h6 : ∀ i, v6.ownBlock = some i → wc.heap.size ≤ i := fun i hi => by rcases e6 with e | e; (rw [e] at hi; have : eb = i := Option.some.inj hi; have := HEB.out.1; omega); (rw [e] at hi; have := Option.some.inj hi; have := BX.out.size; omega)
                    have H6 := Lib.hid h6
                    have ne6 : ∀ i, i < wc.heap.size → ¬ ((Value.slice (some ⟨eb, 0, none⟩) 0 0).ownBlock = some i) := fun i hi e => by have : eb = i := Option.some.inj e; have := HEB.out.1; omega
                    have BX6 := Lib.hid (show Below wc.heap.size wc x3 from BX.out.trans (k6.below BX.out.size ne6))
                    have TBx := Lib.hid (TBx.out.keep k6 (ne6 _ TLT.out))
                    have d46 : x3.cell? ⟨g, k * 6 + 4, none⟩ = some (.slice ta jT.length tn) := (BX6.out.cell (p := ⟨g, k * 6 + 4, none⟩) (by show g < _; exact GLC.out)).trans D4.out
                    have NB := Lib.hid (NB.out.keep k6 (fun e => HEN.out (Option.some.inj e).symm))
                    have A6 := Lib.hid o6
                    have ANX := Lib.hid (ANX.out.keep k6 (fun i hi e => ne6 i (ALT.out i hi) e))
                    clear u0 u1 u2
                    obtain ⟨u0, u1, u2⟩ : x3.cell? ⟨Tq, 0, none⟩ = some (.int .u64 an.v) ∧ x3.cell? ⟨Tq, 1, none⟩ = some (.bool an.d) ∧ x3.cell? ⟨Tq, 2, none⟩ = some (.slice q0 ql qc) := TBx.out.c3
                    obtain ⟨va, vl, vc, rfl⟩ := own_isSl o6
                    clear o6 g6 e6 k6 h6 ne6 d4
                    have d4 := d46
                    have BX := BX6
                    clear d46
                    refine hK.out _ _ ?_ (fun hHeld => ?_)
                    · try dsimp only
                      exact ⟨u0, u1, u2⟩
                    clear hK K
                    try simp only [Act.put, List.getElem_toArray, List.getElem_cons_zero, List.getElem_cons_succ, List.setIfInBounds_toArray, List.set_cons_zero, List.set_cons_succ]
                    refine wpAnyH_ready (rs := [9]) (by kernel_rfl) (by simp) ?_
                    refine AllReadyH.cons rfl (fun K hK => ?_) AllReadyH.nil
                    refine wp_app1 (.tmp 104) (.tmp 106) 59 49 rfl Try.underlying59 ji jz0 jz1 jz2 rfl (by decide) _ _ _ rfl A6.out gb [.int .u64 an.v, .bool an.d, .slice q0 ql qc] rfl NB.out rfl (by intro u hu; simp only [List.mem_cons, List.not_mem_nil, or_false] at hu; rcases hu with rfl | rfl | rfl <;> rfl) (by omega) (by unfold maxLen; omega) ?_
                    intro v9 x9 o9 g9 e9
                    have k9 := grown_keep g9
                    have c9 := k9.size
                    have h9 : ∀ i, v9.ownBlock = some i → wc.heap.size ≤ i := fun i hi => by rcases e9 with e | e; (rw [e] at hi; exact H6.out i hi); (rw [e] at hi; have := Option.some.inj hi; have := BX.out.size; omega)
                    have ne9 : ∀ i, i < wc.heap.size → ¬ ((Value.slice va vl vc).ownBlock = some i) := fun i hi e => by have := H6.out i e; omega
                    have BX9 := Lib.hid (show Below wc.heap.size wc x9 from BX.out.trans (k9.below BX.out.size ne9))
                    have TBx := Lib.hid (TBx.out.keep k9 (ne9 _ TLT.out))
                    have d49 : x9.cell? ⟨g, k * 6 + 4, none⟩ = some (.slice ta jT.length tn) := (BX9.out.cell (p := ⟨g, k * 6 + 4, none⟩) (by show g < _; exact GLC.out)).trans D4.out
                    have fd49 : x9.frozen? ⟨g, k * 6 + 4, none⟩ = false := (BX9.out.frozen (p := ⟨g, k * 6 + 4, none⟩) (by show g < _; exact GLC.out)).trans FD4.out
                    have O9 := Lib.hid o9
                    have H9 := Lib.hid h9
                    clear u0 u1 u2
                    obtain ⟨u0, u1, u2⟩ : x9.cell? ⟨Tq, 0, none⟩ = some (.int .u64 an.v) ∧ x9.cell? ⟨Tq, 1, none⟩ = some (.bool an.d) ∧ x9.cell? ⟨Tq, 2, none⟩ = some (.slice q0 ql qc) := TBx.out.c3
                    obtain ⟨v9a, v9l, v9c, rfl⟩ := own_isSl o9
                    clear o9 g9 e9 k9 h9 ne9 d4
                    refine hK.out _ _ ?_ (fun hHeld => ?_)
                    · try dsimp only
                      exact ⟨u0, u1, u2⟩
                    clear hK K
                    try simp only [Act.put, List.getElem_toArray, List.getElem_cons_zero, List.getElem_cons_succ, List.setIfInBounds_toArray, List.set_cons_zero, List.set_cons_succ]
                    refine wpAnyH_take (i := 10) (v := ?_) rfl (by kernel_rfl) (by kernel_rfl) (by kernel_rfl) (fun _ _ _ h => h) (Or.inl ⟨by rfl, ?_⟩) (by assumption) ?_
                    rotate_left
                    · intro w0 hSw
                      (try dsimp only at hSw)
                      go_simp
                      try with_reducible rfl
                    try simp only [Act.put, List.getElem_toArray, List.getElem_cons_zero, List.getElem_cons_succ, List.setIfInBounds_toArray, List.set_cons_zero, List.set_cons_succ]
                    refine wpAnyH_take (i := 11) (v := ?_) rfl (by kernel_rfl) (by kernel_rfl) (by kernel_rfl) (fun _ _ _ h => h) (Or.inl ⟨by rfl, ?_⟩) (by assumption) ?_
                    rotate_left
                    · intro w0 hSw
                      (try dsimp only at hSw)
                      go_simp
                      try with_reducible rfl
                    try simp only [Act.put, List.getElem_toArray, List.getElem_cons_zero, List.getElem_cons_succ, List.setIfInBounds_toArray, List.set_cons_zero, List.set_cons_succ]
                    refine wpAnyH_ready (rs := [12]) (by kernel_rfl) (by simp) ?_
                    refine AllReadyH.cons rfl (fun K hK => ?_) AllReadyH.nil
                    go_simp
                    refine hK.out _ _ ?_ (fun hHeld => ?_)
                    · try dsimp only
                      exact (Blk.far TBx.out (a := ⟨g, k * 6 + 4, none⟩) HGT.out.symm _).c3
                    clear hK K
                    try simp only [Act.put, List.getElem_toArray, List.getElem_cons_zero, List.getElem_cons_succ, List.setIfInBounds_toArray, List.set_cons_zero, List.set_cons_succ]
                    refine wpAnyH_done (by kernel_rfl) ?_ _
                    go_wp2_with fail
                    go_meet
                    exact ⟨_, FIN23.out _ _ BX9.out O9.out H9.out⟩
                · go_simp
                  refine hK.out _ _ ?_ (fun hHeld => ?_)
                  · try dsimp only
                    go_keep
                  clear hK K
                  try simp only [Act.put, List.getElem_toArray, List.getElem_cons_zero, List.getElem_cons_succ, List.setIfInBounds_toArray, List.set_cons_zero, List.set_cons_succ]
                  obtain ⟨x1, hx⟩ : ∃ xn : World, xn = x0.alloc (Obj.cells #[.int .u64 an.v, .bool an.d, .slice q0 ql qc] 49) := ⟨_, rfl⟩
                  rw [← hx]
                  have b : Below x0.heap.size x0 x1 := by rw [hx]; exact (Below.refl _ _).alloc (Nat.le_refl _) _
                  have ZX := Lib.hid (show x1.heap.size = x0.heap.size + 1 by rw [hx]; simp)
                  have hxo := BX.out.size
                  have BX := Lib.hid (BX.out.trans (b.mono BX.out.size))
                  have TBx := Lib.hid (TBx.out.below b TBx.out.lt)
                  have d4 : x1.cell? ⟨g, k * 6 + 4, none⟩ = some (.slice ta jT.length tn) := (BX.out.cell (p := ⟨g, k * 6 + 4, none⟩) (by show g < _; exact GLC.out)).trans D4.out
                  have ANX := Lib.hid (ANX.out.below b)
                  have NB := Lib.hid (show Blk x1 x0.heap.size [.int .u64 an.v, .bool an.d, .slice q0 ql qc] by rw [hx]; exact Blk.made x0 _ _)
                  obtain ⟨gb, hgb'⟩ : ∃ gb, gb = x0.heap.size := ⟨_, rfl⟩
                  rw [← hgb'] at NB ⊢
                  have HGB := Lib.hid (show wc.heap.size ≤ gb ∧ gb < x1.heap.size from ⟨by rw [hgb']; exact hxo, by rw [hgb', ZX.out]; omega⟩)
                  clear hgb'
                  clear hx b hxo
                  clear u0 u1 u2
                  obtain ⟨u0, u1, u2⟩ : x1.cell? ⟨Tq, 0, none⟩ = some (.int .u64 an.v) ∧ x1.cell? ⟨Tq, 1, none⟩ = some (.bool an.d) ∧ x1.cell? ⟨Tq, 2, none⟩ = some (.slice q0 ql qc) := TBx.out.c3
                  refine wpAnyH_ready (rs := [1]) (by kernel_rfl) (by simp) ?_
                  refine AllReadyH.cons rfl (fun K hK => ?_) AllReadyH.nil
                  go_simp
                  refine hK.out _ _ ?_ (fun hHeld => ?_)
                  · try dsimp only
                    go_keep
                  clear hK K
                  try simp only [Act.put, List.getElem_toArray, List.getElem_cons_zero, List.getElem_cons_succ, List.setIfInBounds_toArray, List.set_cons_zero, List.set_cons_succ]
                  obtain ⟨x2, hx⟩ : ∃ xn : World, xn = x1.alloc (Obj.cells #[] 49) := ⟨_, rfl⟩
                  rw [← hx]
                  have b : Below x1.heap.size x1 x2 := by rw [hx]; exact (Below.refl _ _).alloc (Nat.le_refl _) _
                  have ZX := Lib.hid (show x2.heap.size = x1.heap.size + 1 by rw [hx]; simp)
                  have hxo := BX.out.size
                  have BX := Lib.hid (BX.out.trans (b.mono BX.out.size))
                  have TBx := Lib.hid (TBx.out.below b TBx.out.lt)
                  have d4 : x2.cell? ⟨g, k * 6 + 4, none⟩ = some (.slice ta jT.length tn) := (BX.out.cell (p := ⟨g, k * 6 + 4, none⟩) (by show g < _; exact GLC.out)).trans D4.out
                  have ANX := Lib.hid (ANX.out.below b)
                  have NB := Lib.hid (NB.out.below b NB.out.lt)
                  have EM := Lib.hid (show x2.ownsRow 0 49 3 (.slice (some ⟨x1.heap.size, 0, none⟩) 0 0) 0 [] by rw [hx]; exact World.ownsRow_made x1 #[] 0 (Nat.zero_le _) (Nat.zero_le _) rfl)
                  obtain ⟨eb, heb⟩ : ∃ eb, eb = x1.heap.size := ⟨_, rfl⟩
                  rw [← heb] at EM ⊢
                  have HEB := Lib.hid (show wc.heap.size ≤ eb ∧ eb < x2.heap.size from ⟨by rw [heb]; exact hxo, by rw [heb, ZX.out]; omega⟩)
                  have HEN := Lib.hid (show gb ≠ eb by have := HGB.out.2; omega)
                  clear heb
                  clear hx b hxo
                  clear u0 u1 u2
                  obtain ⟨u0, u1, u2⟩ : x2.cell? ⟨Tq, 0, none⟩ = some (.int .u64 an.v) ∧ x2.cell? ⟨Tq, 1, none⟩ = some (.bool an.d) ∧ x2.cell? ⟨Tq, 2, none⟩ = some (.slice q0 ql qc) := TBx.out.c3
                  refine wpAnyH_ready (rs := [6]) (by kernel_rfl) (by simp) ?_
                  refine AllReadyH.cons rfl (fun K hK => ?_) AllReadyH.nil
                  refine wp_appA (.tmp 99) (.tmp 103) rfl _ rfl EM.out _ rfl ANX.out (by omega) ?_
                  intro v6 x3 o6 g6 e6
                  have k6 := grown_keep g6
                  have c6 := k6.size
                  have h6 : ∀ i, v6.ownBlock = some i → wc.heap.size ≤ i := fun i hi => by rcases e6 with e | e; (rw [e] at hi; have : eb = i := Option.some.inj hi; have := HEB.out.1; omega); (rw [e] at hi; have := Option.some.inj hi; have := BX.out.size; omega)
                  have H6 := Lib.hid h6
                  have ne6 : ∀ i, i < wc.heap.size → ¬ ((Value.slice (some ⟨eb, 0, none⟩) 0 0).ownBlock = some i) := fun i hi e => by have : eb = i := Option.some.inj e; have := HEB.out.1; omega
                  have BX6 := Lib.hid (show Below wc.heap.size wc x3 from BX.out.trans (k6.below BX.out.size ne6))
                  have TBx := Lib.hid (TBx.out.keep k6 (ne6 _ TLT.out))
                  have d46 : x3.cell? ⟨g, k * 6 + 4, none⟩ = some (.slice ta jT.length tn) := (BX6.out.cell (p := ⟨g, k * 6 + 4, none⟩) (by show g < _; exact GLC.out)).trans D4.out
                  have NB := Lib.hid (NB.out.keep k6 (fun e => HEN.out (Option.some.inj e).symm))
                  have A6 := Lib.hid o6
                  have ANX := Lib.hid (ANX.out.keep k6 (fun i hi e => ne6 i (ALT.out i hi) e))
                  clear u0 u1 u2
                  obtain ⟨u0, u1, u2⟩ : x3.cell? ⟨Tq, 0, none⟩ = some (.int .u64 an.v) ∧ x3.cell? ⟨Tq, 1, none⟩ = some (.bool an.d) ∧ x3.cell? ⟨Tq, 2, none⟩ = some (.slice q0 ql qc) := TBx.out.c3
                  obtain ⟨va, vl, vc, rfl⟩ := own_isSl o6
                  clear o6 g6 e6 k6 h6 ne6 d4
                  have d4 := d46
                  have BX := BX6
                  clear d46
                  refine hK.out _ _ ?_ (fun hHeld => ?_)
                  · try dsimp only
                    exact ⟨u0, u1, u2⟩
                  clear hK K
                  try simp only [Act.put, List.getElem_toArray, List.getElem_cons_zero, List.getElem_cons_succ, List.setIfInBounds_toArray, List.set_cons_zero, List.set_cons_succ]
                  refine wpAnyH_ready (rs := [9]) (by kernel_rfl) (by simp) ?_
                  refine AllReadyH.cons rfl (fun K hK => ?_) AllReadyH.nil
                  refine wp_app1 (.tmp 104) (.tmp 106) 59 49 rfl Try.underlying59 ji jz0 jz1 jz2 rfl (by decide) _ _ _ rfl A6.out gb [.int .u64 an.v, .bool an.d, .slice q0 ql qc] rfl NB.out rfl (by intro u hu; simp only [List.mem_cons, List.not_mem_nil, or_false] at hu; rcases hu with rfl | rfl | rfl <;> rfl) (by omega) (by unfold maxLen; omega) ?_
                  intro v9 x9 o9 g9 e9
                  have k9 := grown_keep g9
                  have c9 := k9.size
                  have h9 : ∀ i, v9.ownBlock = some i → wc.heap.size ≤ i := fun i hi => by rcases e9 with e | e; (rw [e] at hi; exact H6.out i hi); (rw [e] at hi; have := Option.some.inj hi; have := BX.out.size; omega)
                  have ne9 : ∀ i, i < wc.heap.size → ¬ ((Value.slice va vl vc).ownBlock = some i) := fun i hi e => by have := H6.out i e; omega
                  have BX9 := Lib.hid (show Below wc.heap.size wc x9 from BX.out.trans (k9.below BX.out.size ne9))
                  have TBx := Lib.hid (TBx.out.keep k9 (ne9 _ TLT.out))
                  have d49 : x9.cell? ⟨g, k * 6 + 4, none⟩ = some (.slice ta jT.length tn) := (BX9.out.cell (p := ⟨g, k * 6 + 4, none⟩) (by show g < _; exact GLC.out)).trans D4.out
                  have fd49 : x9.frozen? ⟨g, k * 6 + 4, none⟩ = false := (BX9.out.frozen (p := ⟨g, k * 6 + 4, none⟩) (by show g < _; exact GLC.out)).trans FD4.out
                  have O9 := Lib.hid o9
                  have H9 := Lib.hid h9
                  clear u0 u1 u2
                  obtain ⟨u0, u1, u2⟩ : x9.cell? ⟨Tq, 0, none⟩ = some (.int .u64 an.v) ∧ x9.cell? ⟨Tq, 1, none⟩ = some (.bool an.d) ∧ x9.cell? ⟨Tq, 2, none⟩ = some (.slice q0 ql qc) := TBx.out.c3
                  obtain ⟨v9a, v9l, v9c, rfl⟩ := own_isSl o9
                  clear o9 g9 e9 k9 h9 ne9 d4
                  refine hK.out _ _ ?_ (fun hHeld => ?_)
                  · try dsimp only
                    exact ⟨u0, u1, u2⟩
                  clear hK K
                  try simp only [Act.put, List.getElem_toArray, List.getElem_cons_zero, List.getElem_cons_succ, List.setIfInBounds_toArray, List.set_cons_zero, List.set_cons_succ]
                  refine wpAnyH_take (i := 10) (v := ?_) rfl (by kernel_rfl) (by kernel_rfl) (by kernel_rfl) (fun _ _ _ h => h) (Or.inl ⟨by rfl, ?_⟩) (by assumption) ?_
                  rotate_left
                  · intro w0 hSw
                    (try dsimp only at hSw)
                    go_simp
                    try with_reducible rfl
                  try simp only [Act.put, List.getElem_toArray, List.getElem_cons_zero, List.getElem_cons_succ, List.setIfInBounds_toArray, List.set_cons_zero, List.set_cons_succ]
                  refine wpAnyH_take (i := 11) (v := ?_) rfl (by kernel_rfl) (by kernel_rfl) (by kernel_rfl) (fun _ _ _ h => h) (Or.inl ⟨by rfl, ?_⟩) (by assumption) ?_
                  rotate_left
                  · intro w0 hSw
                    (try dsimp only at hSw)
                    go_simp
                    try with_reducible rfl
                  try simp only [Act.put, List.getElem_toArray, List.getElem_cons_zero, List.getElem_cons_succ, List.setIfInBounds_toArray, List.set_cons_zero, List.set_cons_succ]
                  refine wpAnyH_ready (rs := [12]) (by kernel_rfl) (by simp) ?_
                  refine AllReadyH.cons rfl (fun K hK => ?_) AllReadyH.nil
                  go_simp
                  refine hK.out _ _ ?_ (fun hHeld => ?_)
                  · try dsimp only
                    exact (Blk.far TBx.out (a := ⟨g, k * 6 + 4, none⟩) HGT.out.symm _).c3
                  clear hK K
                  try simp only [Act.put, List.getElem_toArray, List.getElem_cons_zero, List.getElem_cons_succ, List.setIfInBounds_toArray, List.set_cons_zero, List.set_cons_succ]
                  refine wpAnyH_done (by kernel_rfl) ?_ _
                  go_wp2_with fail
                  go_meet
                  exact ⟨_, FIN23.out _ _ BX9.out O9.out H9.out⟩
              · go_simp
                refine hK.out _ _ ?_ (fun hHeld => ?_)
                · try dsimp only
                  go_keep
                clear hK K
                try simp only [Act.put, List.getElem_toArray, List.getElem_cons_zero, List.getElem_cons_succ, List.setIfInBounds_toArray, List.set_cons_zero, List.set_cons_succ]
                obtain ⟨x1, hx⟩ : ∃ xn : World, xn = x0.alloc (Obj.cells #[.int .u64 an.v, .bool an.d, .slice q0 ql qc] 49) := ⟨_, rfl⟩
                rw [← hx]
                have b : Below x0.heap.size x0 x1 := by rw [hx]; exact (Below.refl _ _).alloc (Nat.le_refl _) _
                have ZX := Lib.hid (show x1.heap.size = x0.heap.size + 1 by rw [hx]; simp)
                have hxo := BX.out.size
                have BX := Lib.hid (BX.out.trans (b.mono BX.out.size))
                have TBx := Lib.hid (TBx.out.below b TBx.out.lt)
                have d4 : x1.cell? ⟨g, k * 6 + 4, none⟩ = some (.slice ta jT.length tn) := (BX.out.cell (p := ⟨g, k * 6 + 4, none⟩) (by show g < _; exact GLC.out)).trans D4.out
                have ANX := Lib.hid (ANX.out.below b)
                have NB := Lib.hid (show Blk x1 x0.heap.size [.int .u64 an.v, .bool an.d, .slice q0 ql qc] by rw [hx]; exact Blk.made x0 _ _)
                obtain ⟨gb, hgb'⟩ : ∃ gb, gb = x0.heap.size := ⟨_, rfl⟩
                rw [← hgb'] at NB ⊢
                have HGB := Lib.hid (show wc.heap.size ≤ gb ∧ gb < x1.heap.size from ⟨by rw [hgb']; exact hxo, by rw [hgb', ZX.out]; omega⟩)
                clear hgb'
                clear hx b hxo
                clear u0 u1 u2
                obtain ⟨u0, u1, u2⟩ : x1.cell? ⟨Tq, 0, none⟩ = some (.int .u64 an.v) ∧ x1.cell? ⟨Tq, 1, none⟩ = some (.bool an.d) ∧ x1.cell? ⟨Tq, 2, none⟩ = some (.slice q0 ql qc) := TBx.out.c3
                refine wpAnyH_ready (rs := [1, 5]) (by kernel_rfl) (by simp) ?_
                refine AllReadyH.cons rfl (fun K hK => ?_) (AllReadyH.cons rfl (fun K hK => ?_) AllReadyH.nil)
                · go_simp
                  refine hK.out _ _ ?_ (fun hHeld => ?_)
                  · try dsimp only
                    go_keep
                  clear hK K
                  try simp only [Act.put, List.getElem_toArray, List.getElem_cons_zero, List.getElem_cons_succ, List.setIfInBounds_toArray, List.set_cons_zero, List.set_cons_succ]
                  obtain ⟨x2, hx⟩ : ∃ xn : World, xn = x1.alloc (Obj.cells #[] 49) := ⟨_, rfl⟩
                  rw [← hx]
                  have b : Below x1.heap.size x1 x2 := by rw [hx]; exact (Below.refl _ _).alloc (Nat.le_refl _) _
                  have ZX := Lib.hid (show x2.heap.size = x1.heap.size + 1 by rw [hx]; simp)
                  have hxo := BX.out.size
                  have BX := Lib.hid (BX.out.trans (b.mono BX.out.size))
                  have TBx := Lib.hid (TBx.out.below b TBx.out.lt)
                  have d4 : x2.cell? ⟨g, k * 6 + 4, none⟩ = some (.slice ta jT.length tn) := (BX.out.cell (p := ⟨g, k * 6 + 4, none⟩) (by show g < _; exact GLC.out)).trans D4.out
                  have ANX := Lib.hid (ANX.out.below b)
                  have NB := Lib.hid (NB.out.below b NB.out.lt)
                  have EM := Lib.hid (show x2.ownsRow 0 49 3 (.slice (some ⟨x1.heap.size, 0, none⟩) 0 0) 0 [] by rw [hx]; exact World.ownsRow_made x1 #[] 0 (Nat.zero_le _) (Nat.zero_le _) rfl)
                  obtain ⟨eb, heb⟩ : ∃ eb, eb = x1.heap.size := ⟨_, rfl⟩
                  rw [← heb] at EM ⊢
                  have HEB := Lib.hid (show wc.heap.size ≤ eb ∧ eb < x2.heap.size from ⟨by rw [heb]; exact hxo, by rw [heb, ZX.out]; omega⟩)
                  have HEN := Lib.hid (show gb ≠ eb by have := HGB.out.2; omega)
                  clear heb
                  clear hx b hxo
                  clear u0 u1 u2
                  obtain ⟨u0, u1, u2⟩ : x2.cell? ⟨Tq, 0, none⟩ = some (.int .u64 an.v) ∧ x2.cell? ⟨Tq, 1, none⟩ = some (.bool an.d) ∧ x2.cell? ⟨Tq, 2, none⟩ = some (.slice q0 ql qc) := TBx.out.c3
                  refine wpAnyH_ready (rs := [5]) (by kernel_rfl) (by simp) ?_
                  refine AllReadyH.cons rfl (fun K hK => ?_) AllReadyH.nil
                  go_simp
                  refine hK.out _ _ ?_ (fun hHeld => ?_)
                  · try dsimp only
                    go_keep
                  clear hK K
                  try simp only [Act.put, List.getElem_toArray, List.getElem_cons_zero, List.getElem_cons_succ, List.setIfInBounds_toArray, List.set_cons_zero, List.set_cons_succ]
                  refine wpAnyH_ready (rs := [6]) (by kernel_rfl) (by simp) ?_
                  refine AllReadyH.cons rfl (fun K hK => ?_) AllReadyH.nil
                  refine wp_appA (.tmp 99) (.tmp 103) rfl _ rfl EM.out _ rfl ANX.out (by omega) ?_
                  intro v6 x3 o6 g6 e6
                  have k6 := grown_keep g6
                  have c6 := k6.size
                  have h6 : ∀ i, v6.ownBlock = some i → wc.heap.size ≤ i := fun i hi => by rcases e6 with e | e; (rw [e] at hi; have : eb = i := Option.some.inj hi; have := HEB.out.1; omega); (rw [e] at hi; have := Option.some.inj hi; have := BX.out.size; omega)
                  have H6 := Lib.hid h6
                  have ne6 : ∀ i, i < wc.heap.size → ¬ ((Value.slice (some ⟨eb, 0, none⟩) 0 0).ownBlock = some i) := fun i hi e => by have : eb = i := Option.some.inj e; have := HEB.out.1; omega
                  have BX6 := Lib.hid (show Below wc.heap.size wc x3 from BX.out.trans (k6.below BX.out.size ne6))
                  have TBx := Lib.hid (TBx.out.keep k6 (ne6 _ TLT.out))
                  have d46 : x3.cell? ⟨g, k * 6 + 4, none⟩ = some (.slice ta jT.length tn) := (BX6.out.cell (p := ⟨g, k * 6 + 4, none⟩) (by show g < _; exact GLC.out)).trans D4.out
                  have NB := Lib.hid (NB.out.keep k6 (fun e => HEN.out (Option.some.inj e).symm))
                  have A6 := Lib.hid o6
                  have ANX := Lib.hid (ANX.out.keep k6 (fun i hi e => ne6 i (ALT.out i hi) e))
                  clear u0 u1 u2
                  obtain ⟨u0, u1, u2⟩ : x3.cell? ⟨Tq, 0, none⟩ = some (.int .u64 an.v) ∧ x3.cell? ⟨Tq, 1, none⟩ = some (.bool an.d) ∧ x3.cell? ⟨Tq, 2, none⟩ = some (.slice q0 ql qc) := TBx.out.c3
                  obtain ⟨va, vl, vc, rfl⟩ := own_isSl o6
                  clear o6 g6 e6 k6 h6 ne6 d4
                  have d4 := d46
                  have BX := BX6
                  clear d46
                  refine hK.out _ _ ?_ (fun hHeld => ?_)
                  · try dsimp only
                    exact ⟨u0, u1, u2⟩
                  clear hK K
                  try simp only [Act.put, List.getElem_toArray, List.getElem_cons_zero, List.getElem_cons_succ, List.setIfInBounds_toArray, List.set_cons_zero, List.set_cons_succ]
                  refine wpAnyH_ready (rs := [9]) (by kernel_rfl) (by simp) ?_
                  refine AllReadyH.cons rfl (fun K hK => ?_) AllReadyH.nil
                  refine wp_app1 (.tmp 104) (.tmp 106) 59 49 rfl Try.underlying59 ji jz0 jz1 jz2 rfl (by decide) _ _ _ rfl A6.out gb [.int .u64 an.v, .bool an.d, .slice q0 ql qc] rfl NB.out rfl (by intro u hu; simp only [List.mem_cons, List.not_mem_nil, or_false] at hu; rcases hu with rfl | rfl | rfl <;> rfl) (by omega) (by unfold maxLen; omega) ?_
                  intro v9 x9 o9 g9 e9
                  have k9 := grown_keep g9
                  have c9 := k9.size
                  have h9 : ∀ i, v9.ownBlock = some i → wc.heap.size ≤ i := fun i hi => by rcases e9 with e | e; (rw [e] at hi; exact H6.out i hi); (rw [e] at hi; have := Option.some.inj hi; have := BX.out.size; omega)
                  have ne9 : ∀ i, i < wc.heap.size → ¬ ((Value.slice va vl vc).ownBlock = some i) := fun i hi e => by have := H6.out i e; omega
                  have BX9 := Lib.hid (show Below wc.heap.size wc x9 from BX.out.trans (k9.below BX.out.size ne9))
                  have TBx := Lib.hid (TBx.out.keep k9 (ne9 _ TLT.out))
                  have d49 : x9.cell? ⟨g, k * 6 + 4, none⟩ = some (.slice ta jT.length tn) := (BX9.out.cell (p := ⟨g, k * 6 + 4, none⟩) (by show g < _; exact GLC.out)).trans D4.out
                  have fd49 : x9.frozen? ⟨g, k * 6 + 4, none⟩ = false := (BX9.out.frozen (p := ⟨g, k * 6 + 4, none⟩) (by show g < _; exact GLC.out)).trans FD4.out
                  have O9 := Lib.hid o9
                  have H9 := Lib.hid h9
                  clear u0 u1 u2
                  obtain ⟨u0, u1, u2⟩ : x9.cell? ⟨Tq, 0, none⟩ = some (.int .u64 an.v) ∧ x9.cell? ⟨Tq, 1, none⟩ = some (.bool an.d) ∧ x9.cell? ⟨Tq, 2, none⟩ = some (.slice q0 ql qc) := TBx.out.c3
                  obtain ⟨v9a, v9l, v9c, rfl⟩ := own_isSl o9
                  clear o9 g9 e9 k9 h9 ne9 d4
                  refine hK.out _ _ ?_ (fun hHeld => ?_)
                  · try dsimp only
                    exact ⟨u0, u1, u2⟩
                  clear hK K
                  try simp only [Act.put, List.getElem_toArray, List.getElem_cons_zero, List.getElem_cons_succ, List.setIfInBounds_toArray, List.set_cons_zero, List.set_cons_succ]
                  refine wpAnyH_take (i := 10) (v := ?_) rfl (by kernel_rfl) (by kernel_rfl) (by kernel_rfl) (fun _ _ _ h => h) (Or.inl ⟨by rfl, ?_⟩) (by assumption) ?_
                  rotate_left
                  · intro w0 hSw
                    (try dsimp only at hSw)
                    go_simp
                    try with_reducible rfl
                  try simp only [Act.put, List.getElem_toArray, List.getElem_cons_zero, List.getElem_cons_succ, List.setIfInBounds_toArray, List.set_cons_zero, List.set_cons_succ]
                  refine wpAnyH_take (i := 11) (v := ?_) rfl (by kernel_rfl) (by kernel_rfl) (by kernel_rfl) (fun _ _ _ h => h) (Or.inl ⟨by rfl, ?_⟩) (by assumption) ?_
                  rotate_left
                  · intro w0 hSw
                    (try dsimp only at hSw)
                    go_simp
                    try with_reducible rfl
                  try simp only [Act.put, List.getElem_toArray, List.getElem_cons_zero, List.getElem_cons_succ, List.setIfInBounds_toArray, List.set_cons_zero, List.set_cons_succ]
                  refine wpAnyH_ready (rs := [12]) (by kernel_rfl) (by simp) ?_
                  refine AllReadyH.cons rfl (fun K hK => ?_) AllReadyH.nil
                  go_simp
                  refine hK.out _ _ ?_ (fun hHeld => ?_)
                  · try dsimp only
                    exact (Blk.far TBx.out (a := ⟨g, k * 6 + 4, none⟩) HGT.out.symm _).c3
                  clear hK K
                  try simp only [Act.put, List.getElem_toArray, List.getElem_cons_zero, List.getElem_cons_succ, List.setIfInBounds_toArray, List.set_cons_zero, List.set_cons_succ]
                  refine wpAnyH_done (by kernel_rfl) ?_ _
                  go_wp2_with fail
                  go_meet
                  exact ⟨_, FIN23.out _ _ BX9.out O9.out H9.out⟩
                · go_simp
                  refine hK.out _ _ ?_ (fun hHeld => ?_)
                  · try dsimp only
                    go_keep
                  clear hK K
                  try simp only [Act.put, List.getElem_toArray, List.getElem_cons_zero, List.getElem_cons_succ, List.setIfInBounds_toArray, List.set_cons_zero, List.set_cons_succ]
                  refine wpAnyH_ready (rs := [1]) (by kernel_rfl) (by simp) ?_
                  refine AllReadyH.cons rfl (fun K hK => ?_) AllReadyH.nil
                  go_simp
                  refine hK.out _ _ ?_ (fun hHeld => ?_)
                  · try dsimp only
                    go_keep
                  clear hK K
                  try simp only [Act.put, List.getElem_toArray, List.getElem_cons_zero, List.getElem_cons_succ, List.setIfInBounds_toArray, List.set_cons_zero, List.set_cons_succ]
                  obtain ⟨x2, hx⟩ : ∃ xn : World, xn = x1.alloc (Obj.cells #[] 49) := ⟨_, rfl⟩
                  rw [← hx]
                  have b : Below x1.heap.size x1 x2 := by rw [hx]; exact (Below.refl _ _).alloc (Nat.le_refl _) _
                  have ZX := Lib.hid (show x2.heap.size = x1.heap.size + 1 by rw [hx]; simp)
                  have hxo := BX.out.size
                  have BX := Lib.hid (BX.out.trans (b.mono BX.out.size))
                  have TBx := Lib.hid (TBx.out.below b TBx.out.lt)
                  have d4 : x2.cell? ⟨g, k * 6 + 4, none⟩ = some (.slice ta jT.length tn) := (BX.out.cell (p := ⟨g, k * 6 + 4, none⟩) (by show g < _; exact GLC.out)).trans D4.out
                  have ANX := Lib.hid (ANX.out.below b)
                  have NB := Lib.hid (NB.out.below b NB.out.lt)
                  have EM := Lib.hid (show x2.ownsRow 0 49 3 (.slice (some ⟨x1.heap.size, 0, none⟩) 0 0) 0 [] by rw [hx]; exact World.ownsRow_made x1 #[] 0 (Nat.zero_le _) (Nat.zero_le _) rfl)
                  obtain ⟨eb, heb⟩ : ∃ eb, eb = x1.heap.size := ⟨_, rfl⟩
                  rw [← heb] at EM ⊢
                  have HEB := Lib.hid (show wc.heap.size ≤ eb ∧ eb < x2.heap.size from ⟨by rw [heb]; exact hxo, by rw [heb, ZX.out]; omega⟩)
                  have HEN := Lib.hid (show gb ≠ eb by have := HGB.out.2; omega)
                  clear heb
                  clear hx b hxo
                  clear u0 u1 u2
                  obtain ⟨u0, u1, u2⟩ : x2.cell? ⟨Tq, 0, none⟩ = some (.int .u64 an.v) ∧ x2.cell? ⟨Tq, 1, none⟩ = some (.bool an.d) ∧ x2.cell? ⟨Tq, 2, none⟩ = some (.slice q0 ql qc) := TBx.out.c3
                  refine wpAnyH_ready (rs := [6]) (by kernel_rfl) (by simp) ?_
                  refine AllReadyH.cons rfl (fun K hK => ?_) AllReadyH.nil
                  refine wp_appA (.tmp 99) (.tmp 103) rfl _ rfl EM.out _ rfl ANX.out (by omega) ?_
                  intro v6 x3 o6 g6 e6
                  have k6 := grown_keep g6
                  have c6 := k6.size
                  have h6 : ∀ i, v6.ownBlock = some i → wc.heap.size ≤ i := fun i hi => by rcases e6 with e | e; (rw [e] at hi; have : eb = i := Option.some.inj hi; have := HEB.out.1; omega); (rw [e] at hi; have := Option.some.inj hi; have := BX.out.size; omega)
                  have H6 := Lib.hid h6
                  have ne6 : ∀ i, i < wc.heap.size → ¬ ((Value.slice (some ⟨eb, 0, none⟩) 0 0).ownBlock = some i) := fun i hi e => by have : eb = i := Option.some.inj e; have := HEB.out.1; omega
                  have BX6 := Lib.hid (show Below wc.heap.size wc x3 from BX.out.trans (k6.below BX.out.size ne6))
                  have TBx := Lib.hid (TBx.out.keep k6 (ne6 _ TLT.out))
                  have d46 : x3.cell? ⟨g, k * 6 + 4, none⟩ = some (.slice ta jT.length tn) := (BX6.out.cell (p := ⟨g, k * 6 + 4, none⟩) (by show g < _; exact GLC.out)).trans D4.out
                  have NB := Lib.hid (NB.out.keep k6 (fun e => HEN.out (Option.some.inj e).symm))
                  have A6 := Lib.hid o6
                  have ANX := Lib.hid (ANX.out.keep k6 (fun i hi e => ne6 i (ALT.out i hi) e))
                  clear u0 u1 u2
                  obtain ⟨u0, u1, u2⟩ : x3.cell? ⟨Tq, 0, none⟩ = some (.int .u64 an.v) ∧ x3.cell? ⟨Tq, 1, none⟩ = some (.bool an.d) ∧ x3.cell? ⟨Tq, 2, none⟩ = some (.slice q0 ql qc) := TBx.out.c3
                  obtain ⟨va, vl, vc, rfl⟩ := own_isSl o6
                  clear o6 g6 e6 k6 h6 ne6 d4
                  have d4 := d46
                  have BX := BX6
                  clear d46
                  refine hK.out _ _ ?_ (fun hHeld => ?_)
                  · try dsimp only
                    exact ⟨u0, u1, u2⟩
                  clear hK K
                  try simp only [Act.put, List.getElem_toArray, List.getElem_cons_zero, List.getElem_cons_succ, List.setIfInBounds_toArray, List.set_cons_zero, List.set_cons_succ]
                  refine wpAnyH_ready (rs := [9]) (by kernel_rfl) (by simp) ?_
                  refine AllReadyH.cons rfl (fun K hK => ?_) AllReadyH.nil
                  refine wp_app1 (.tmp 104) (.tmp 106) 59 49 rfl Try.underlying59 ji jz0 jz1 jz2 rfl (by decide) _ _ _ rfl A6.out gb [.int .u64 an.v, .bool an.d, .slice q0 ql qc] rfl NB.out rfl (by intro u hu; simp only [List.mem_cons, List.not_mem_nil, or_false] at hu; rcases hu with rfl | rfl | rfl <;> rfl) (by omega) (by unfold maxLen; omega) ?_
                  intro v9 x9 o9 g9 e9
                  have k9 := grown_keep g9
                  have c9 := k9.size
                  have h9 : ∀ i, v9.ownBlock = some i → wc.heap.size ≤ i := fun i hi => by rcases e9 with e | e; (rw [e] at hi; exact H6.out i hi); (rw [e] at hi; have := Option.some.inj hi; have := BX.out.size; omega)
                  have ne9 : ∀ i, i < wc.heap.size → ¬ ((Value.slice va vl vc).ownBlock = some i) := fun i hi e => by have := H6.out i e; omega
                  have BX9 := Lib.hid (show Below wc.heap.size wc x9 from BX.out.trans (k9.below BX.out.size ne9))
                  have TBx := Lib.hid (TBx.out.keep k9 (ne9 _ TLT.out))
                  have d49 : x9.cell? ⟨g, k * 6 + 4, none⟩ = some (.slice ta jT.length tn) := (BX9.out.cell (p := ⟨g, k * 6 + 4, none⟩) (by show g < _; exact GLC.out)).trans D4.out
                  have fd49 : x9.frozen? ⟨g, k * 6 + 4, none⟩ = false := (BX9.out.frozen (p := ⟨g, k * 6 + 4, none⟩) (by show g < _; exact GLC.out)).trans FD4.out
                  have O9 := Lib.hid o9
                  have H9 := Lib.hid h9
                  clear u0 u1 u2
                  obtain ⟨u0, u1, u2⟩ : x9.cell? ⟨Tq, 0, none⟩ = some (.int .u64 an.v) ∧ x9.cell? ⟨Tq, 1, none⟩ = some (.bool an.d) ∧ x9.cell? ⟨Tq, 2, none⟩ = some (.slice q0 ql qc) := TBx.out.c3
                  obtain ⟨v9a, v9l, v9c, rfl⟩ := own_isSl o9
                  clear o9 g9 e9 k9 h9 ne9 d4
                  refine hK.out _ _ ?_ (fun hHeld => ?_)
                  · try dsimp only
                    exact ⟨u0, u1, u2⟩
                  clear hK K
                  try simp only [Act.put, List.getElem_toArray, List.getElem_cons_zero, List.getElem_cons_succ, List.setIfInBounds_toArray, List.set_cons_zero, List.set_cons_succ]
                  refine wpAnyH_take (i := 10) (v := ?_) rfl (by kernel_rfl) (by kernel_rfl) (by kernel_rfl) (fun _ _ _ h => h) (Or.inl ⟨by rfl, ?_⟩) (by assumption) ?_
                  rotate_left
                  · intro w0 hSw
                    (try dsimp only at hSw)
                    go_simp
                    try with_reducible rfl
                  try simp only [Act.put, List.getElem_toArray, List.getElem_cons_zero, List.getElem_cons_succ, List.setIfInBounds_toArray, List.set_cons_zero, List.set_cons_succ]
                  refine wpAnyH_take (i := 11) (v := ?_) rfl (by kernel_rfl) (by kernel_rfl) (by kernel_rfl) (fun _ _ _ h => h) (Or.inl ⟨by rfl, ?_⟩) (by assumption) ?_
                  rotate_left
                  · intro w0 hSw
                    (try dsimp only at hSw)
                    go_simp
                    try with_reducible rfl
                  try simp only [Act.put, List.getElem_toArray, List.getElem_cons_zero, List.getElem_cons_succ, List.setIfInBounds_toArray, List.set_cons_zero, List.set_cons_succ]
                  refine wpAnyH_ready (rs := [12]) (by kernel_rfl) (by simp) ?_
                  refine AllReadyH.cons rfl (fun K hK => ?_) AllReadyH.nil
                  go_simp
                  refine hK.out _ _ ?_ (fun hHeld => ?_)
                  · try dsimp only
                    exact (Blk.far TBx.out (a := ⟨g, k * 6 + 4, none⟩) HGT.out.symm _).c3
                  clear hK K
                  try simp only [Act.put, List.getElem_toArray, List.getElem_cons_zero, List.getElem_cons_succ, List.setIfInBounds_toArray, List.set_cons_zero, List.set_cons_succ]
                  refine wpAnyH_done (by kernel_rfl) ?_ _
                  go_wp2_with fail
                  go_meet
                  exact ⟨_, FIN23.out _ _ BX9.out O9.out H9.out⟩
            case rest =>
              obtain ⟨v9, κ5, k1, k2, h6, kg6⟩ := hcut
              have z1 := HZ1.out
              have z2 := HZ2.out
              have z3 := HZ3.out
              have z6 := kg6.size
              have TB6 := Lib.hid (TB3.out.keep kg6 (fun e => hgT e.symm))
              have AB6 := Lib.hid (AB3.out.keep kg6 (by show ¬ w1.heap.size = g; omega))
              have XB6 := Lib.hid (XB3.out.keep kg6 (fun e => hgx e.symm))
              have RB6 := Lib.hid (RB3.out.keep kg6 (fun e => hgr e.symm))
              have HK1 := Lib.hid k1
              have HK2 := Lib.hid k2
              have HH6 := Lib.hid h6
              have hAn : ∀ i, (Value.slice n0 nl nc).ownBlock = some i → κ5 i = .tb ∧ ¬ i = g ∧ ¬ i = w.heap.size + 1 + 1 := by
                intro i hi
                rcases HOWN.out i hi with h1 | h1
                · have h2 := H.out.all i (by rw [h1]; nofun)
                  exact ⟨(k1 i (by omega)).trans h1, (fun e => by rw [e, KG.out] at h1; cases h1), by omega⟩
                · exact ⟨k2 i (by omega) (by omega), by omega, by omega⟩
              have hAq : ∀ i, (Value.slice q0 ql qc).ownBlock = some i → κ5 i = .tb ∧ ¬ i = g ∧ ¬ i = w.heap.size + 1 + 1 := by
                intro i hi
                have h1 := World.ownsRow.lt O3.out i hi
                exact ⟨k2 i (by omega) (by omega), by omega, by omega⟩
              have HAN' := Lib.hid hAn
              have HAQ := Lib.hid hAq
              have RD1 := Lib.hid (show RdB wc (.slice n0 nl nc) A.b from (R2.out.keep K3.out (fun h0 i hi e => HNE.out h0 i hi e)).keep kg6 (fun _ i hi e => (hAn i hi).2.1 e))
              have RD2 := Lib.hid (show RdB wc (.slice q0 ql qc) an.b from O3.out.rd.keep kg6 (fun _ i hi e => (hAq i hi).2.1 e))
              have KP6 := Lib.hid (show Keep (fun i => κ i ≠ .no) w wc from KP3.out.then kg6 (fun i _ e => by show κ i ≠ .no; rw [show i = g from e, KG.out]; nofun))
              have hac : JbS.ac ⟨jk, jA, jn, .slice sa sl sc, jb, v9, jT ++ [⟨an.v, an.d, .slice q0 ql qc, an.b⟩], false⟩ = ⟨some (m.step an.b), false⟩ := by
                rw [HM.out]
                show (⟨some ((jbM jk jA jn jb).told (jT ++ [_])), false⟩ : Ac CpM) = ⟨some (((jbM jk jA jn jb).told jT).step an.b), false⟩
                rw [CpM.told_snoc]
              have HAC := Lib.hid hac
              have N52 := Lib.hid (show κ5 (w.heap.size + 1 + 1) = .no from (k1 _ (by omega)).trans NB2.out)
              have N51 := Lib.hid (show κ5 (w.heap.size + 1) = .no from (k1 _ (by omega)).trans NB1.out)
              obtain ⟨u0, u1, u2⟩ := TB6.out.c3
              obtain ⟨l0, l1, l2, l3, l4, l5⟩ := AB6.out.c6
              obtain ⟨f0, f1, f2, f3, f4, f5, f6, f7, f8, f9, f10, f11⟩ := XB6.out.f12
              obtain ⟨g0, g1, g2, g3, g4, g5, g6, g7, g8, g9, g10, g11⟩ := XB6.out.c12
              have nxL : w.heap.size + 1 + 1 ≠ w1.heap.size := by omega
              have nxT : w.heap.size + 1 + 1 ≠ Tq := by omega
              have zz := Lib.hid (show w3.heap.size = wb.heap.size ∧ w.heap.size + 3 = w3.heap.size from ⟨by omega, by omega⟩)
              clear k1 k2 h6 kg6 hAn hAq hac z1 z2 z3 z6
              go_upto_region 24 with fail
              go_region
              all_goals go_wp2_with fail
              all_goals go_meet
              refine rp_mid (S1 := { S with bs := ob, cnt := S.cnt + 1, acts := S.acts.set k ⟨some (m.step an.b), false⟩ }) (κ5 := κ5) HPK3.out rfl (by rw [← HAC.out]; exact HH6.out.recnt (S.cnt + 1)) (fun i hi => HK1.out i (by have := zz.out.2; omega)) N51.out N52.out RB6.out RD1.out RD2.out (fun i hi => hi.elim (fun h => (HAN'.out i h).1) (fun h => (HAQ.out i h).1)) (fun x hx => ?_) (List.length_set ..) KP6.out ?_ ?_
              · rcases List.mem_or_eq_of_mem_set hx with hx | rfl
                · exact Nat.le_succ_of_le (HL.out x hx)
                · show (jT ++ [_]).length ≤ N + 1
                  rw [List.length_append]
                  have := JTL.out
                  simp
                  omega
              · refine Keep.drew ?_
                iterate 9 (refine Keep.setCell (M := (· = w.heap.size + 1 + 1)) ?_ (Or.inl rfl) _)
                exact Keep.refl _ _
              · refine Blk.drew ?_
                exact (((((((((XB6.out.set 3 (.int .i64 A.k)).set 4 (.int .i64 A.a)).set 5 (.int .i64 A.n)).set 6 (.int .u64 A.v)).set 7 (.int .u64 A.x)).set 8 (.slice n0 nl nc)).set 9 (.int .u64 an.v)).set 10 (.bool an.d)).set 11 (.slice q0 ql qc))
          · have hb20 : (er != 0) = true := by simp [he]
            have hpk3 : P = ({ S with acts := S.acts.set k ⟨some m, true⟩ }, evZ, er) := by
              rw [HP.out, HPK2.out, if_neg (show ¬ (cpMac.want m).err S.bs.length = 0 by show ¬ m.want.err S.bs.length = 0; rw [← HA.out, ← HER.out]; exact he), HER.out, HA.out]
              rfl
            have HPK3 := Lib.hid hpk3
            have hob : ob = S.bs := by rw [HOB.out]; unfold AA.outE; rw [if_neg (by rw [← HER.out]; exact he)]
            have HW3 := Lib.hid (show RoIn wc κ R bb (.slice (some ⟨g, 0, none⟩) J.length jcap) tv J S from HW2.out.bytes K3.out S.bs rfl (by rw [← hob]; exact G3.out) HW2.out.isb)
            have d5 : wc.cell? ⟨g, k * 6 + 5, none⟩ = some (.bool false) := HCLc.out 5 _ rfl
            have fd5 := HFRc.out (k * 6 + 5)
            obtain ⟨f0, f1, f2, f3, f4, f5, f6, f7, f8, f9, f10, f11⟩ := RB3.out.f12
            obtain ⟨g0, g1, g2, g3, g4, g5, g6, g7, g8, g9, g10, g11⟩ := RB3.out.c12
            clear hpk3 he hob
            go_wp2
            refine bodyPost_ret (v := .tuple #[evV 0 0 0 aaZ (.slice none 0 0) anZ (.slice none 0 0), .int .i64 er]) (res_ev2 (q := w.heap.size + 1) (c := aaZ) (x := anZ) rfl rfl rfl ?_) rfl ?_
            · exact (((((((((((((Blk.far RB3.out (a := ⟨g, k * 6 + 5, none⟩) hgr.symm (.bool true)).set 0 (.int .i64 0)).set 1 (.int .i64 0)).set 2 (.int .i64 0)).set 3 (.int .i64 0)).set 4 (.int .i64 0)).set 5 (.int .i64 0)).set 6 (.int .u64 0)).set 7 (.int .u64 0)).set 8 (.slice none 0 0)).set 9 (.int .u64 0)).set 10 (.bool false)).set 11 (.slice none 0 0))
            · rw [HPK3.out]
              have HT := HW3.out.turn HJ.out (j' := ⟨jk, jA, jn, .slice sa sl sc, jb, .slice ta jT.length tn, jT, true⟩) rfl 5 (.bool true) (by decide) rfl (JIN3.out.dead true)
              refine rp_early (J := J) (S1 := { S with acts := S.acts.set k ⟨some m, true⟩ }) (J' := J.set k ⟨jk, jA, jn, .slice sa sl sc, jb, .slice ta jT.length tn, jT, true⟩) (by rw [HM.out]; exact HT) (fun _ _ => rfl) NB1.out (fun x hx => ?_) (List.length_set ..) (Keep.setCell KP3.out (p := ⟨g, k * 6 + 5, none⟩) (.inl (by show κ g ≠ .no; rw [KG.out]; nofun)) _) ?_
              · rcases List.mem_or_eq_of_mem_set hx with hx | rfl
                · exact Nat.le_succ_of_le (HL.out x hx)
                · exact Nat.le_succ_of_le JTL.out
              · iterate 12 (refine Keep.setCell (M := (· = w.heap.size + 1)) ?_ (Or.inl rfl) _)
                exact Keep.refl _ _
  case rest =>
    obtain ⟨κ4, J4, S1, ca, xa, sa, sl, sc, ta, tl, tc, hP4, htr4, h4, k4, n41, n42, x4, r4, rd1, rd2, kn4, ln4, len4, kp4⟩ := hcut
    have H4 := Lib.hid h4
    have HP4 := Lib.hid hP4
    have K4 := Lib.hid k4
    have N41 := Lib.hid n41
    have N42 := Lib.hid n42
    have XB4 := Lib.hid x4
    have R4 := Lib.hid r4
    have RD1 := Lib.hid rd1
    have RD2 := Lib.hid rd2
    have KN4 := Lib.hid kn4
    have LN4 := Lib.hid ln4
    have LEN4 := Lib.hid len4
    have KP4 := Lib.hid kp4
    obtain ⟨es, hes, ho, hob, hev⟩ := h4.tr
    have hel : es.length ≤ 1000000 := by have e := congrArg List.length hes; rw [List.length_map, htr4] at e; omega
    have HES := Lib.hid hes
    have HO := Lib.hid ho
    have HOB := Lib.hid hob
    have HEV := Lib.hid hev
    have WC := h4.cells.2.2.2
    have WF := h4.hd.frozen 3
    have hRlt : R < wc.heap.size := h4.hd.lt
    have hxlt : w.heap.size + 1 + 1 < wc.heap.size := x4.lt
    have hrlt : w.heap.size + 1 < wc.heap.size := r4.lt
    have hwx4 : R ≠ wc.heap.size := by omega
    have HW0 := Lib.hid kp4.size
    clear W1 W2 WF2 q0 q1 q2 f0 f1 f2 f3 f4 f5 f6 f7 f8 f9 f10 f11 g0 g1 g2 g3 g4 g5 g6 g7 g8 g9 g10 g11
    obtain ⟨g0, g1, g2, g3, g4, g5, g6, g7, g8, g9, g10, g11⟩ := (show Blk wc (w.heap.size + 1 + 1) [.int .i64 pk, .int .i64 pa, .int .i64 pn, .int .i64 ca.k, .int .i64 ca.a, .int .i64 ca.n, .int .u64 ca.v, .int .u64 ca.x, .slice sa sl sc, .int .u64 xa.v, .bool xa.d, .slice ta tl tc] from x4).c12
    obtain ⟨i0, hi, hz0, hz1, hz2⟩ := info_parts evinfo
    clear h4 hP4 htr4 k4 n41 n42 x4 r4 rd1 rd2 kn4 ln4 len4 kp4 hes ho hob hev
    go_upto_region 25 with fail
    go_cut [] from 114 to 123 (fun wx => ∃ κ' tv', RoIn wx κ' R bb (.slice ja J.length jcap) tv' J4 { S1 with tr := S1.tr ++ [⟨pk, pa, pn, ca, xa⟩] } ∧ (∀ i, i < w.heap.size → κ' i = κ i) ∧ κ' (w.heap.size + 1) = .no ∧ Blk wx (w.heap.size + 1 + 1) [.int .i64 pk, .int .i64 pa, .int .i64 pn, .int .i64 ca.k, .int .i64 ca.a, .int .i64 ca.n, .int .u64 ca.v, .int .u64 ca.x, .slice sa sl sc, .int .u64 xa.v, .bool xa.d, .slice ta tl tc] ∧ RdB wx (.slice sa sl sc) ca.b ∧ RdB wx (.slice ta tl tc) xa.b ∧ Blk wx (w.heap.size + 1) [.int .i64 0, .int .i64 0, .int .i64 0, .int .i64 0, .int .i64 0, .int .i64 0, .int .u64 0, .int .u64 0, .slice none 0 0, .int .u64 0, .bool false, .slice none 0 0] ∧ Keep (fun i => κ i ≠ .no) w wx)
    case first =>
      refine wp_region_held_drew (S := fun w' => w'.cell? ⟨w.heap.size + 1 + 1, 0, none⟩ = some (.int .i64 pk) ∧ w'.cell? ⟨w.heap.size + 1 + 1, 1, none⟩ = some (.int .i64 pa) ∧ w'.cell? ⟨w.heap.size + 1 + 1, 2, none⟩ = some (.int .i64 pn) ∧ w'.cell? ⟨w.heap.size + 1 + 1, 3, none⟩ = some (.int .i64 ca.k) ∧ w'.cell? ⟨w.heap.size + 1 + 1, 4, none⟩ = some (.int .i64 ca.a) ∧ w'.cell? ⟨w.heap.size + 1 + 1, 5, none⟩ = some (.int .i64 ca.n) ∧ w'.cell? ⟨w.heap.size + 1 + 1, 6, none⟩ = some (.int .u64 ca.v) ∧ w'.cell? ⟨w.heap.size + 1 + 1, 7, none⟩ = some (.int .u64 ca.x) ∧ w'.cell? ⟨w.heap.size + 1 + 1, 8, none⟩ = some (.slice sa sl sc) ∧ w'.cell? ⟨w.heap.size + 1 + 1, 9, none⟩ = some (.int .u64 xa.v) ∧ w'.cell? ⟨w.heap.size + 1 + 1, 10, none⟩ = some (.bool xa.d) ∧ w'.cell? ⟨w.heap.size + 1 + 1, 11, none⟩ = some (.slice ta tl tc)) (by kernel_rfl) ?_ (fun hHeld => ?_)
      · try dsimp only
        exact ⟨g0, g1, g2, g3, g4, g5, g6, g7, g8, g9, g10, g11⟩
      refine wpAnyH_take (i := 0) (v := ?_) rfl (by kernel_rfl) (by kernel_rfl) (by kernel_rfl) (fun _ _ _ h => h) (Or.inl ⟨by rfl, ?_⟩) (by assumption) ?_
      rotate_left
      · intro w0 hSw
        (try dsimp only at hSw)
        go_simp
        try with_reducible rfl
      try simp only [Act.put, List.getElem_toArray, List.getElem_cons_zero, List.getElem_cons_succ, List.setIfInBounds_toArray, List.set_cons_zero, List.set_cons_succ]
      refine wpAnyH_take (i := 1) (v := ?_) rfl (by kernel_rfl) (by kernel_rfl) (by kernel_rfl) (fun _ _ _ h => h) (Or.inl ⟨by rfl, ?_⟩) (by assumption) ?_
      rotate_left
      · intro w0 hSw
        (try dsimp only at hSw)
        go_simp
        try with_reducible rfl
      try simp only [Act.put, List.getElem_toArray, List.getElem_cons_zero, List.getElem_cons_succ, List.setIfInBounds_toArray, List.set_cons_zero, List.set_cons_succ]
      refine wpAnyH_take (i := 2) (v := ?_) rfl (by kernel_rfl) (by kernel_rfl) (by kernel_rfl) (fun _ _ _ h => h) (Or.inl ⟨by rfl, ?_⟩) (by assumption) ?_
      rotate_left
      · intro w0 hSw
        (try dsimp only at hSw)
        go_simp
        try with_reducible rfl
      try simp only [Act.put, List.getElem_toArray, List.getElem_cons_zero, List.getElem_cons_succ, List.setIfInBounds_toArray, List.set_cons_zero, List.set_cons_succ]
      refine wpAnyH_take (i := 3) (v := ?_) rfl (by kernel_rfl) (by kernel_rfl) (by kernel_rfl) (fun _ _ _ h => h) (Or.inl ⟨by rfl, ?_⟩) (by assumption) ?_
      rotate_left
      · intro w0 hSw
        (try dsimp only at hSw)
        go_simp
        try with_reducible rfl
      try simp only [Act.put, List.getElem_toArray, List.getElem_cons_zero, List.getElem_cons_succ, List.setIfInBounds_toArray, List.set_cons_zero, List.set_cons_succ]
      refine wpAnyH_take (i := 5) (v := ?_) rfl (by kernel_rfl) (by kernel_rfl) (by kernel_rfl) (fun _ _ _ h => h) (Or.inl ⟨by rfl, ?_⟩) (by assumption) ?_
      rotate_left
      · intro w0 hSw
        (try dsimp only at hSw)
        go_simp
        try with_reducible rfl
      try simp only [Act.put, List.getElem_toArray, List.getElem_cons_zero, List.getElem_cons_succ, List.setIfInBounds_toArray, List.set_cons_zero, List.set_cons_succ]
      refine wpAnyH_ready (rs := [4, 6]) (by kernel_rfl) (by simp) ?_
      refine AllReadyH.cons rfl (fun K hK => ?_) (AllReadyH.cons rfl (fun K hK => ?_) AllReadyH.nil)
      · go_simp
        refine hK.out _ _ ?_ (fun hHeld => ?_)
        · try dsimp only
          all_goals go_keep
        clear hK K
        try simp only [Act.put, List.getElem_toArray, List.getElem_cons_zero, List.getElem_cons_succ, List.setIfInBounds_toArray, List.set_cons_zero, List.set_cons_succ]
        refine wpAnyH_ready (rs := [6]) (by kernel_rfl) (by simp) ?_
        refine AllReadyH.cons rfl (fun K hK => ?_) AllReadyH.nil
        go_simp
        go_wp2_with fail
        refine hK.out _ _ ?_ (fun hHeld => ?_)
        · try dsimp only
          all_goals go_keep
        clear hK K
        try simp only [Act.put, List.getElem_toArray, List.getElem_cons_zero, List.getElem_cons_succ, List.setIfInBounds_toArray, List.set_cons_zero, List.set_cons_succ]
        obtain ⟨w5, hw5⟩ : ∃ w5 : World, w5 = (wc.alloc (Obj.cells #[.int .i64 pk, .int .i64 pa, .int .i64 pn, .int .i64 ca.k, .int .i64 ca.a, .int .i64 ca.n, .int .u64 ca.v, .int .u64 ca.x, .slice sa sl sc, .int .u64 xa.v, .bool xa.d, .slice ta tl tc] 51)).drew := ⟨_, rfl⟩
        have b5 : Below wc.heap.size wc w5 := by rw [hw5]; exact bel_drewN 1 ((Below.refl _ _).alloc (Nat.le_refl _) _)
        have NB := Lib.hid (show Blk w5 wc.heap.size [.int .i64 pk, .int .i64 pa, .int .i64 pn, .int .i64 ca.k, .int .i64 ca.a, .int .i64 ca.n, .int .u64 ca.v, .int .u64 ca.x, .slice sa sl sc, .int .u64 xa.v, .bool xa.d, .slice ta tl tc] by rw [hw5]; exact Blk.drew (Blk.made wc _ _))
        have H5 := Lib.hid (H4.out.below b5)
        have OW := Lib.hid (ownsRow_keep HO.out (Below.keeps (M := fun _ => False) b5) (fun _ _ => id))
        have XB5 := Lib.hid (XB4.out.below b5 hxlt)
        have RB5 := Lib.hid (R4.out.below b5 (by omega))
        have HS5 := Lib.hid (show w5.heap.size = wc.heap.size + 1 by rw [hw5, World.size_drew, World.size_alloc])
        have B5 := Lib.hid b5
        rw [← hw5]
        clear hw5 b5
        refine wpAnyH_ready (rs := [7]) (by kernel_rfl) (by simp) ?_
        refine AllReadyH.cons rfl (fun K hK => ?_) AllReadyH.nil
        refine wp_app1 (.tmp 118) (.tmp 120) 40 51 rfl Try.underlying40 hi hz0 hz1 hz2 rfl (by decide) tv es.length (es.flatMap evL) rfl OW.out wc.heap.size (evC pk pa pn ca (.slice sa sl sc) xa (.slice ta tl tc)) rfl NB.out rfl (ones_ev _ _ _ _ _ _ _ _ _ _ _) (by omega) (by unfold maxLen; omega) ?_
        intro v' w6 o6 g6 e6
        have KG := grown_keep g6
        have nX : ∀ i, κ4 i ≠ .tr → ¬ tv.ownBlock = some i := fun i h1 h2 => h1 (HOB.out i h2)
        have XB6 := Lib.hid (show Blk w6 (w.heap.size + 1 + 1) [.int .i64 pk, .int .i64 pa, .int .i64 pn, .int .i64 ca.k, .int .i64 ca.a, .int .i64 ca.n, .int .u64 ca.v, .int .u64 ca.x, .slice sa sl sc, .int .u64 xa.v, .bool xa.d, .slice ta tl tc] from Blk.keep XB5.out KG (nX _ (by rw [N42.out]; nofun)))
        have RB6 := Lib.hid (RB5.out.keep KG (nX _ (by rw [N41.out]; nofun)))
        have nWt : ¬ tv.ownBlock = some R := nX _ (by rw [H4.out.kR]; nofun)
        have hWF := (KG.frozen (b := R) 3 H5.out.hd.lt nWt).trans (H5.out.hd.frozen 3)
        have hWC := (KG.cell (b := R) 3 H5.out.hd.lt nWt).trans H5.out.cells.2.2.2
        have O6 := Lib.hid o6
        have E6 := Lib.hid e6
        have KG := Lib.hid KG
        have NX := Lib.hid nX
        obtain ⟨va, vl, vc, rfl⟩ := own_isSl o6
        clear o6 e6 g6 nWt nX
        refine hK.out _ _ ?_ (fun hHeld => ?_)
        · try dsimp only
          exact XB6.out.c12
        clear hK K
        try simp only [Act.put, List.getElem_toArray, List.getElem_cons_zero, List.getElem_cons_succ, List.setIfInBounds_toArray, List.set_cons_zero, List.set_cons_succ]
        refine wpAnyH_take (i := 8) (v := ?_) rfl (by kernel_rfl) (by kernel_rfl) (by kernel_rfl) (fun _ _ _ h => h) (Or.inl ⟨by rfl, ?_⟩) (by assumption) ?_
        rotate_left
        · intro w0 hSw
          (try dsimp only at hSw)
          go_simp
          try with_reducible rfl
        try simp only [Act.put, List.getElem_toArray, List.getElem_cons_zero, List.getElem_cons_succ, List.setIfInBounds_toArray, List.set_cons_zero, List.set_cons_succ]
        refine wpAnyH_take (i := 9) (v := ?_) rfl (by kernel_rfl) (by kernel_rfl) (by kernel_rfl) (fun _ _ _ h => h) (Or.inl ⟨by rfl, ?_⟩) (by assumption) ?_
        rotate_left
        · intro w0 hSw
          (try dsimp only at hSw)
          go_simp
          try with_reducible rfl
        try simp only [Act.put, List.getElem_toArray, List.getElem_cons_zero, List.getElem_cons_succ, List.setIfInBounds_toArray, List.set_cons_zero, List.set_cons_succ]
        refine wpAnyH_ready (rs := [10]) (by kernel_rfl) (by simp) ?_
        refine AllReadyH.cons rfl (fun K hK => ?_) AllReadyH.nil
        go_simp
        refine hK.out _ _ ?_ (fun hHeld => ?_)
        · try dsimp only
          exact (Blk.far XB6.out (a := ⟨R, 3, none⟩) nRx' _).c12
        clear hK K
        try simp only [Act.put, List.getElem_toArray, List.getElem_cons_zero, List.getElem_cons_succ, List.setIfInBounds_toArray, List.set_cons_zero, List.set_cons_succ]
        refine wpAnyH_done (by kernel_rfl) ?_ _
        go_wp2_with fail
        go_meet
        have hHS := HS5.out
        have hw0 := HW0.out
        have hown : ∀ i, (Value.slice va vl vc).ownBlock = some i → κ4 i = .tr ∨ i = w5.heap.size := fun i hi => by rcases E6.out with h | h; exact .inl (HOB.out i (h ▸ hi)); rw [h] at hi; exact .inr (Option.some.inj hi).symm
        refine ⟨kdR κ4 (.slice va vl vc), .slice va vl vc, H5.out.traced es HES.out HOB.out (HEV.out.keep (K := fun _ => False) (Below.keeps B5.out) (fun _ _ => id) (fun _ => id)) ⟨pk, pa, pn, ca, xa⟩ (.slice sa sl sc) (.slice ta tl tc) (RD1.out.below B5.out) (RD2.out.below B5.out) KN4.out KG.out O6.out E6.out, fun i hi => ?_, ?_, Blk.far XB6.out (a := ⟨R, 3, none⟩) nRx' _, ?_, ?_, Blk.far RB6.out (a := ⟨R, 3, none⟩) (show w.heap.size + 1 ≠ R by have := RL.out; omega) _, ?_⟩
        · unfold kdR
          split
          · rename_i e
            rcases hown i e with h | h
            · rw [← K4.out i hi]; exact h.symm
            · omega
          · exact K4.out i hi
        · unfold kdR
          rw [if_neg]
          · exact N41.out
          · intro e
            rcases hown _ e with h | h
            · rw [N41.out] at h; cases h
            · omega
        · refine ((RD1.out.below B5.out).keep KG.out fun _ i hi => NX.out i (by rw [KN4.out i (.inl hi)]; nofun)).keep (Keep.setCell (M := (· = R)) (Keep.refl _ _) (p := ⟨R, 3, none⟩) (.inl rfl) _) fun _ i hi h => ?_
          have h1 := KN4.out i (.inl hi)
          rw [show i = R from h, H4.out.kR] at h1
          cases h1
        · refine ((RD2.out.below B5.out).keep KG.out fun _ i hi => NX.out i (by rw [KN4.out i (.inr hi)]; nofun)).keep (Keep.setCell (M := (· = R)) (Keep.refl _ _) (p := ⟨R, 3, none⟩) (.inl rfl) _) fun _ i hi h => ?_
          have h1 := KN4.out i (.inr hi)
          rw [show i = R from h, H4.out.kR] at h1
          cases h1
        · refine Keep.setCell ((KP4.out.trans (Below.keeps B5.out)).then KG.out (fun i hi h => ?_)) (p := ⟨R, 3, none⟩) (.inl (by show κ R ≠ .no; rw [H.out.kR]; nofun)) _
          have h1 := HOB.out i h
          rw [K4.out i hi] at h1
          show κ i ≠ .no
          rw [h1]
          nofun
      · go_simp
        go_wp2_with fail
        refine hK.out _ _ ?_ (fun hHeld => ?_)
        · try dsimp only
          all_goals go_keep
        clear hK K
        try simp only [Act.put, List.getElem_toArray, List.getElem_cons_zero, List.getElem_cons_succ, List.setIfInBounds_toArray, List.set_cons_zero, List.set_cons_succ]
        refine wpAnyH_ready (rs := [4]) (by kernel_rfl) (by simp) ?_
        refine AllReadyH.cons rfl (fun K hK => ?_) AllReadyH.nil
        go_simp
        refine hK.out _ _ ?_ (fun hHeld => ?_)
        · try dsimp only
          all_goals go_keep
        clear hK K
        try simp only [Act.put, List.getElem_toArray, List.getElem_cons_zero, List.getElem_cons_succ, List.setIfInBounds_toArray, List.set_cons_zero, List.set_cons_succ]
        obtain ⟨w5, hw5⟩ : ∃ w5 : World, w5 = (wc.alloc (Obj.cells #[.int .i64 pk, .int .i64 pa, .int .i64 pn, .int .i64 ca.k, .int .i64 ca.a, .int .i64 ca.n, .int .u64 ca.v, .int .u64 ca.x, .slice sa sl sc, .int .u64 xa.v, .bool xa.d, .slice ta tl tc] 51)).drew := ⟨_, rfl⟩
        have b5 : Below wc.heap.size wc w5 := by rw [hw5]; exact bel_drewN 1 ((Below.refl _ _).alloc (Nat.le_refl _) _)
        have NB := Lib.hid (show Blk w5 wc.heap.size [.int .i64 pk, .int .i64 pa, .int .i64 pn, .int .i64 ca.k, .int .i64 ca.a, .int .i64 ca.n, .int .u64 ca.v, .int .u64 ca.x, .slice sa sl sc, .int .u64 xa.v, .bool xa.d, .slice ta tl tc] by rw [hw5]; exact Blk.drew (Blk.made wc _ _))
        have H5 := Lib.hid (H4.out.below b5)
        have OW := Lib.hid (ownsRow_keep HO.out (Below.keeps (M := fun _ => False) b5) (fun _ _ => id))
        have XB5 := Lib.hid (XB4.out.below b5 hxlt)
        have RB5 := Lib.hid (R4.out.below b5 (by omega))
        have HS5 := Lib.hid (show w5.heap.size = wc.heap.size + 1 by rw [hw5, World.size_drew, World.size_alloc])
        have B5 := Lib.hid b5
        rw [← hw5]
        clear hw5 b5
        refine wpAnyH_ready (rs := [7]) (by kernel_rfl) (by simp) ?_
        refine AllReadyH.cons rfl (fun K hK => ?_) AllReadyH.nil
        refine wp_app1 (.tmp 118) (.tmp 120) 40 51 rfl Try.underlying40 hi hz0 hz1 hz2 rfl (by decide) tv es.length (es.flatMap evL) rfl OW.out wc.heap.size (evC pk pa pn ca (.slice sa sl sc) xa (.slice ta tl tc)) rfl NB.out rfl (ones_ev _ _ _ _ _ _ _ _ _ _ _) (by omega) (by unfold maxLen; omega) ?_
        intro v' w6 o6 g6 e6
        have KG := grown_keep g6
        have nX : ∀ i, κ4 i ≠ .tr → ¬ tv.ownBlock = some i := fun i h1 h2 => h1 (HOB.out i h2)
        have XB6 := Lib.hid (show Blk w6 (w.heap.size + 1 + 1) [.int .i64 pk, .int .i64 pa, .int .i64 pn, .int .i64 ca.k, .int .i64 ca.a, .int .i64 ca.n, .int .u64 ca.v, .int .u64 ca.x, .slice sa sl sc, .int .u64 xa.v, .bool xa.d, .slice ta tl tc] from Blk.keep XB5.out KG (nX _ (by rw [N42.out]; nofun)))
        have RB6 := Lib.hid (RB5.out.keep KG (nX _ (by rw [N41.out]; nofun)))
        have nWt : ¬ tv.ownBlock = some R := nX _ (by rw [H4.out.kR]; nofun)
        have hWF := (KG.frozen (b := R) 3 H5.out.hd.lt nWt).trans (H5.out.hd.frozen 3)
        have hWC := (KG.cell (b := R) 3 H5.out.hd.lt nWt).trans H5.out.cells.2.2.2
        have O6 := Lib.hid o6
        have E6 := Lib.hid e6
        have KG := Lib.hid KG
        have NX := Lib.hid nX
        obtain ⟨va, vl, vc, rfl⟩ := own_isSl o6
        clear o6 e6 g6 nWt nX
        refine hK.out _ _ ?_ (fun hHeld => ?_)
        · try dsimp only
          exact XB6.out.c12
        clear hK K
        try simp only [Act.put, List.getElem_toArray, List.getElem_cons_zero, List.getElem_cons_succ, List.setIfInBounds_toArray, List.set_cons_zero, List.set_cons_succ]
        refine wpAnyH_take (i := 8) (v := ?_) rfl (by kernel_rfl) (by kernel_rfl) (by kernel_rfl) (fun _ _ _ h => h) (Or.inl ⟨by rfl, ?_⟩) (by assumption) ?_
        rotate_left
        · intro w0 hSw
          (try dsimp only at hSw)
          go_simp
          try with_reducible rfl
        try simp only [Act.put, List.getElem_toArray, List.getElem_cons_zero, List.getElem_cons_succ, List.setIfInBounds_toArray, List.set_cons_zero, List.set_cons_succ]
        refine wpAnyH_take (i := 9) (v := ?_) rfl (by kernel_rfl) (by kernel_rfl) (by kernel_rfl) (fun _ _ _ h => h) (Or.inl ⟨by rfl, ?_⟩) (by assumption) ?_
        rotate_left
        · intro w0 hSw
          (try dsimp only at hSw)
          go_simp
          try with_reducible rfl
        try simp only [Act.put, List.getElem_toArray, List.getElem_cons_zero, List.getElem_cons_succ, List.setIfInBounds_toArray, List.set_cons_zero, List.set_cons_succ]
        refine wpAnyH_ready (rs := [10]) (by kernel_rfl) (by simp) ?_
        refine AllReadyH.cons rfl (fun K hK => ?_) AllReadyH.nil
        go_simp
        refine hK.out _ _ ?_ (fun hHeld => ?_)
        · try dsimp only
          exact (Blk.far XB6.out (a := ⟨R, 3, none⟩) nRx' _).c12
        clear hK K
        try simp only [Act.put, List.getElem_toArray, List.getElem_cons_zero, List.getElem_cons_succ, List.setIfInBounds_toArray, List.set_cons_zero, List.set_cons_succ]
        refine wpAnyH_done (by kernel_rfl) ?_ _
        go_wp2_with fail
        go_meet
        have hHS := HS5.out
        have hw0 := HW0.out
        have hown : ∀ i, (Value.slice va vl vc).ownBlock = some i → κ4 i = .tr ∨ i = w5.heap.size := fun i hi => by rcases E6.out with h | h; exact .inl (HOB.out i (h ▸ hi)); rw [h] at hi; exact .inr (Option.some.inj hi).symm
        refine ⟨kdR κ4 (.slice va vl vc), .slice va vl vc, H5.out.traced es HES.out HOB.out (HEV.out.keep (K := fun _ => False) (Below.keeps B5.out) (fun _ _ => id) (fun _ => id)) ⟨pk, pa, pn, ca, xa⟩ (.slice sa sl sc) (.slice ta tl tc) (RD1.out.below B5.out) (RD2.out.below B5.out) KN4.out KG.out O6.out E6.out, fun i hi => ?_, ?_, Blk.far XB6.out (a := ⟨R, 3, none⟩) nRx' _, ?_, ?_, Blk.far RB6.out (a := ⟨R, 3, none⟩) (show w.heap.size + 1 ≠ R by have := RL.out; omega) _, ?_⟩
        · unfold kdR
          split
          · rename_i e
            rcases hown i e with h | h
            · rw [← K4.out i hi]; exact h.symm
            · omega
          · exact K4.out i hi
        · unfold kdR
          rw [if_neg]
          · exact N41.out
          · intro e
            rcases hown _ e with h | h
            · rw [N41.out] at h; cases h
            · omega
        · refine ((RD1.out.below B5.out).keep KG.out fun _ i hi => NX.out i (by rw [KN4.out i (.inl hi)]; nofun)).keep (Keep.setCell (M := (· = R)) (Keep.refl _ _) (p := ⟨R, 3, none⟩) (.inl rfl) _) fun _ i hi h => ?_
          have h1 := KN4.out i (.inl hi)
          rw [show i = R from h, H4.out.kR] at h1
          cases h1
        · refine ((RD2.out.below B5.out).keep KG.out fun _ i hi => NX.out i (by rw [KN4.out i (.inr hi)]; nofun)).keep (Keep.setCell (M := (· = R)) (Keep.refl _ _) (p := ⟨R, 3, none⟩) (.inl rfl) _) fun _ i hi h => ?_
          have h1 := KN4.out i (.inr hi)
          rw [show i = R from h, H4.out.kR] at h1
          cases h1
        · refine Keep.setCell ((KP4.out.trans (Below.keeps B5.out)).then KG.out (fun i hi h => ?_)) (p := ⟨R, 3, none⟩) (.inl (by show κ R ≠ .no; rw [H.out.kR]; nofun)) _
          have h1 := HOB.out i h
          rw [K4.out i hi] at h1
          show κ i ≠ .no
          rw [h1]
          nofun
    case rest =>
      obtain ⟨κ', tv', h6, k6, n6, x6, s6, t6, r6, kp6⟩ := hcut
      have H6 := Lib.hid h6
      have K6 := Lib.hid k6
      have N6 := Lib.hid n6
      have S6 := Lib.hid s6
      have T6 := Lib.hid t6
      have R6 := Lib.hid r6
      have KP6 := Lib.hid kp6
      have RL6 := Lib.hid r6.lt
      clear g0 g1 g2 g3 g4 g5 g6 g7 g8 g9 g10 g11 WC WF
      obtain ⟨g0, g1, g2, g3, g4, g5, g6, g7, g8, g9, g10, g11⟩ := x6.c12
      obtain ⟨f0, f1, f2, f3, f4, f5, f6, f7, f8, f9, f10, f11⟩ := r6.f12
      obtain ⟨y0, y1, y2, y3, y4, y5, y6, y7, y8, y9, y10, y11⟩ := r6.c12
      clear h6 k6 n6 x6 s6 t6 r6 kp6
      go_wp2
      refine bodyPost_ret (v := .tuple #[evV pk pa pn ca (.slice sa sl sc) xa (.slice ta tl tc), .int .i64 0]) (res_ev2 (q := w.heap.size + 1) (c := ca) (x := xa) rfl rfl rfl ?_) rfl ?_
      · exact ((((((((((((R6.out.set 0 (.int .i64 pk)).set 1 (.int .i64 pa)).set 2 (.int .i64 pn)).set 3 (.int .i64 ca.k)).set 4 (.int .i64 ca.a)).set 5 (.int .i64 ca.n)).set 6 (.int .u64 ca.v)).set 7 (.int .u64 ca.x)).set 8 (.slice sa sl sc)).set 9 (.int .u64 xa.v)).set 10 (.bool xa.d)).set 11 (.slice ta tl tc))
      · rw [HP4.out]
        have k9 : ∀ w9, Keep (· = w.heap.size + 1) wc w9 → RpPost w κ R bb (.slice ja J.length jcap) N J.length ({ S1 with tr := S1.tr ++ [⟨pk, pa, pn, ca, xa⟩] }, ⟨pk, pa, pn, ca, xa⟩, 0) (.returned (.tuple #[evV pk pa pn ca (.slice sa sl sc) xa (.slice ta tl tc), .int .i64 0])) w9 := fun w9 k9 =>
          ⟨sa, sl, sc, ta, tl, tc, rfl, S6.out.keep k9 (fun h => S6.out.apart h R6.out (by decide)), T6.out.keep k9 (fun h => T6.out.apart h R6.out (by decide)), κ', tv', J4, H6.out.keep k9 (fun i hi e => hi (by rw [show i = w.heap.size + 1 from e]; exact N6.out)), K6.out, LN4.out, LEN4.out, KP6.out.then k9 (fun i hi e => by have e : i = w.heap.size + 1 := e; omega)⟩
        refine k9 _ ?_
        iterate 12 (refine Keep.setCell (M := (· = w.heap.size + 1)) ?_ (Or.inl rfl) _)
        exact Keep.refl _ _
theorem rPick_any {w : World} {κ : Nat → Kd} {R bb : Nat} {jv tv : Value} {J : List JbS} {S : SW CpM} (h : RoIn w κ R bb jv tv J S) (pk pa pn : Int) (N : Nat) (hN : N ≤ 99999) (hl : ∀ j ∈ J, j.T.length ≤ N) (hk0 : 0 ≤ S.clk) (hk1 : S.clk ≤ 4611686018427387904) (htr : S.tr.length ≤ 1000000) :
    Calls Try.prog 10 #[.pointer (some ⟨R, 0, none⟩), .agg #[.int .i64 pk, .int .i64 pa, .int .i64 pn]] w (RpPost w κ R bb jv N J.length (cpMac.pick S pk pa pn)) := by
  by_cases hs : pk = 0 ∧ ∃ (k : Nat) (j : JbS), pa = k ∧ J[k]? = some j ∧ j.d = false
  · exact rPick_step h pk pa pn N hN hl hk0 hk1 htr hs.1 hs.2
  · exact rPick_rest h pk pa pn N hN hl hk0 hk1 htr hs
end Go.Proofs.Ytknahaaefmlcpaa
