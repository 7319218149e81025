/- The walk of SchedRuns. Conditions: as the frame gives them. For every input SchedRuns returns true, and every argument reads behind the call as it read before. Conditions: none. -/
import Derived.Test.YthaglmlkillhdaaSr
import Derived.Test.YthaglmlkillhdaaRows
import Derived.Test.YthaglmlkillhdaaOj
import Derived.Test.YthaglmlkillhdaaOp
import Derived.ProofKit
import Derived.OpenShut
section
namespace Go.Proofs.Ythaglmlkillhdaa
set_option maxRecDepth 100000
open Go.RowKit
set_option linter.unusedVariables false
set_option linter.unusedSimpArgs false
theorem runs_big (a0 : Option Addr) (n0 c0 : Nat) (a1 : Option Addr) (n1 c1 : Nat) (w : World) (h : 6 < n0 ∨ 120 < n1) :
    Calls Try.prog 6 #[.slice a0 n0 c0, .slice a1 n1 c1] w fun e w' => e = .returned (.bool true) ∧ Below w.heap.size w w' := by
  by_cases h0 : (6 : Int) < (n0 : Int)
  · clear h
    go_enter Try.func6, Try.ntmps6
    go_wp2_with fail
    refine (fixed06_any _).mono ?_
    rintro e w1 ⟨rfl, b1⟩
    go_wp2
    go_ret
    exact ⟨rfl, b1⟩
  · have h1 : (120 : Int) < (n1 : Int) := by omega
    clear h
    go_enter Try.func6, Try.ntmps6
    go_wp2_with fail
    refine (fixed06_any _).mono ?_
    rintro e w1 ⟨rfl, b1⟩
    go_wp2
    go_ret
    exact ⟨rfl, b1⟩
set_option maxHeartbeats 2000000 in
theorem runs_said (v0 : Value) (Js : List JobV) (v1 : Value) (Ps : List PickV) (w : World) (r0 : RdR w v0 4 (Js.map JobV.cs)) (j0 : ∀ j ∈ Js, JobV.Ok w j) (r1 : RdR w v1 3 (Ps.map PickV.cs)) (p1 : ∀ q ∈ Ps, PickV.Ok q) :
    Calls Try.prog 6 #[v0, v1] w fun e w' => e = .returned (.bool true) ∧ Below w.heap.size w w' := by
  obtain ⟨a0, c0, rfl⟩ := r0.sl
  obtain ⟨a1, c1, rfl⟩ := r1.sl
  rw [List.length_map] at r0 r1 ⊢
  rw [List.length_map]
  by_cases hbig : 6 < Js.length ∨ 120 < Ps.length
  · exact runs_big _ _ _ _ _ _ w hbig
  have hg0 : ¬ (6 : Int) < (Js.length : Int) := by omega
  have hg1 : ¬ (120 : Int) < (Ps.length : Int) := by omega
  have R0 := Lib.hid r0
  have R1 := Lib.hid r1
  have J0 := Lib.hid j0
  have P1 := Lib.hid p1
  obtain ⟨n0, hn0⟩ : ∃ n, n = Js.length := ⟨_, rfl⟩
  obtain ⟨n1, hn1⟩ : ∃ n, n = Ps.length := ⟨_, rfl⟩
  rw [← hn0] at hg0 R0
  rw [← hn1] at hg1 R1
  rw [← hn0, ← hn1]
  have HN0 := Lib.hid hn0
  have HN1 := Lib.hid hn1
  have hle0 : n0 ≤ 6 := by omega
  have hle1 : n1 ≤ 120 := by omega
  clear r0 r1 j0 p1 hn0 hn1 hbig
  go_enter Try.func6, Try.ntmps6
  go_wp2_with fail
  refine (fixed06_any _).mono ?_
  rintro e w1 ⟨rfl, b1⟩
  have BW1 := Lib.hid b1
  clear b1
  go_wp2_with fail
  go_loopw [38] (fun i wr => ∃ k : Nat, k ≤ n0 ∧ i = .int .i64 k ∧ (∀ j J, j < k → Js[j]? = some J → J.b.length ≤ 60) ∧ Below w.heap.size w wr) (fun i _ => n0 - (intOf i).toNat)
  case atStart => exact ⟨0, by omega, rfl, (fun j J h => by omega), BW1.out⟩
  case round =>
    obtain ⟨k, hk, rfl, hsm, hB⟩ := hrel
    have HSM := Lib.hid hsm
    have HB := Lib.hid hB
    have zB := hB.size
    by_cases hlt : k < n0
    · obtain ⟨g, off, cap, e, _, _, hcell⟩ := R0.out.row (by rw [List.length_map]; have := HN0.out; omega)
      obtain ⟨J, hJk⟩ : ∃ J, Js[k]? = some J := ⟨_, List.getElem?_eq_getElem (by rw [← HN0.out]; exact hlt)⟩
      have hcs := hcell k J.cs (by rw [List.getElem?_map, hJk]; rfl)
      have hcw : ∀ j u, J.cs[j]? = some u → wr.cell? ⟨g, off + k * 4 + j, none⟩ = some u := fun j u hj => (hB.cell (p := ⟨g, off + k * 4 + j, none⟩) (World.block_lt_of_cell? w _ (hcs j u hj))).trans (hcs j u hj)
      obtain ⟨sa, sl, sc, hs⟩ := (J0.out J (List.mem_of_getElem? hJk)).s
      have hsl := rd_len (hs ▸ (J0.out J (List.mem_of_getElem? hJk)).r)
      obtain ⟨jk, ja, jn, js, jb⟩ := J
      dsimp only at hs hsl
      subst hs
      have d0 : wr.cell? ⟨g, off + k * 4, none⟩ = some (.int .u8 jk) := hcw 0 _ rfl
      have d1 : wr.cell? ⟨g, off + k * 4 + 1, none⟩ = some (.int .u16 ja) := hcw 1 _ rfl
      have d2 : wr.cell? ⟨g, off + k * 4 + 2, none⟩ = some (.int .u16 jn) := hcw 2 _ rfl
      have d3 : wr.cell? ⟨g, off + k * 4 + 3, none⟩ = some (.slice sa sl sc) := hcw 3 _ rfl
      have hgl : g < wr.heap.size := World.block_lt_of_cell? _ _ d0
      have ea : a0 = some ⟨g, off, none⟩ := by cases e; rfl
      subst ea
      have HSL := Lib.hid hsl
      have HJK := Lib.hid hJk
      clear e hcell hcs hcw hsm hB hsl hJk
      by_cases hb : (60 : Int) < (sl : Int)
      · go_wp2
        go_ret
        exact ⟨rfl, HB.out.alloc zB _⟩
      · go_wp2
        refine ⟨⟨k + 1, by omega, by go_num, ?_, HB.out.alloc zB _⟩, by simp [intOf]; omega⟩
        intro j J' hj hJ'
        by_cases hjk : j = k
        · subst hjk
          rw [HJK.out] at hJ'
          obtain rfl := Option.some.inj hJ'
          have := HSL.out
          dsimp only
          omega
        · exact HSM.out j J' (by omega) hJ'
    · obtain rfl : k = n0 := by omega
      have hb60 : ∀ j ∈ Js, j.b.length ≤ 60 := by
        intro j hj
        obtain ⟨i, hi, rfl⟩ := List.getElem_of_mem hj
        exact hsm i _ (by rw [HN0.out]; exact hi) (List.getElem?_eq_getElem hi)
      have HB60 := Lib.hid hb60
      clear hsm hB hb60 hlt
      go_wp2_with fail
      refine (mNew_lit6 256 32 _ (by decide) (by decide) (by decide)).mono ?_
      rintro e wA ⟨p1, q1, rfl, hb1, hp1, hq1, bA⟩
      have BU1 := Lib.hid (show Buf wA p1 q1 0 (List.replicate 256 0) from hb1)
      have BWA := Lib.hid (HB.out.trans (bA.mono zB))
      have zA := bA.size
      have lp1 := hb1.hd.lt
      have lq1 := hb1.wd.lt
      clear hb1 bA
      go_wp2_with fail
      refine (mNew_lit6 256 32 _ (by decide) (by decide) (by decide)).mono ?_
      rintro e wB ⟨p2, q2, rfl, hb2, hp2, hq2, bB⟩
      have BU2 := Lib.hid (show Buf wB p2 q2 0 (List.replicate 256 0) from hb2)
      have BU1B := Lib.hid (BU1.out.belows bB)
      have BWB := Lib.hid (BWA.out.trans (bB.mono BWA.out.size))
      have zB2 := bB.size
      have lp2 := hb2.hd.lt
      have lq2 := hb2.wd.lt
      clear hb2 bB
      go_wp2_with fail
      refine (made06_any (.slice a0 k c0) Js _ (R0.out.below BWB.out) (fun j hj => (J0.out j hj).below BWB.out) HB60.out (by have := HN0.out; omega)).mono ?_
      rintro e wC ⟨ov1, jv1, κa, mv1, jc1, rfl, hM1⟩
      obtain ⟨oa, ol, oc, rfl⟩ := own_isSl hM1.oo
      obtain ⟨ra, rl, rc, rfl⟩ := own_isSl hM1.jo
      have RA := Lib.hid (show ∀ i, κa i ≠ .no → wB.heap.size ≤ i ∧ i < wC.heap.size from fun i hi => (hM1.kd i).elim (fun h => absurd h hi) (fun h => h.2))
      have HM1 := Lib.hid hM1
      have BWC := Lib.hid (BWB.out.trans (hM1.bel.mono BWB.out.size))
      have zC := hM1.bel.size
      have BU2C := Lib.hid (BU2.out.belows hM1.bel)
      clear hM1
      go_wp2_with fail
      refine (made06_any (.slice a0 k c0) Js _ (R0.out.below BWC.out) (fun j hj => (J0.out j hj).below BWC.out) HB60.out (by have := HN0.out; omega)).mono ?_
      rintro e wD ⟨ov2, jv2, κb, mv2, jc2, rfl, hM2⟩
      obtain ⟨pa, pl, pc, rfl⟩ := own_isSl hM2.oo
      obtain ⟨ta, tl, tc, rfl⟩ := own_isSl hM2.jo
      have RB := Lib.hid (show ∀ i, κb i ≠ .no → wC.heap.size ≤ i ∧ i < wD.heap.size from fun i hi => (hM2.kd i).elim (fun h => absurd h hi) (fun h => h.2))
      have HM2 := Lib.hid hM2
      have HM1D := Lib.hid (HM1.out.below hM2.bel)
      have BWD := Lib.hid (BWC.out.trans (hM2.bel.mono BWC.out.size))
      have zD := hM2.bel.size
      clear hM2
      go_wp2_with fail
      refine (new06 HM1D.out BU1B.out (by have := HN0.out; omega)).mono ?_
      rintro e wE ⟨V, κ1, av1, ab1, rfl, hV, hk1, hVs, bE⟩
      have HV := Lib.hid hV
      have K1 := Lib.hid hk1
      have BWE := Lib.hid (BWD.out.trans (bE.mono BWD.out.size))
      have HM2E := Lib.hid (HM2.out.below bE)
      have zE := bE.size
      have NK1 := Lib.hid (show ∀ i, κ1 i ≠ .no → w.heap.size ≤ i from new_nk HM1D.out (by omega) (by omega) (by omega) hk1)
      clear hV bE hk1
      go_wp2_with fail
      refine (new06 HM2E.out BU2C.out (by have := HN0.out; omega)).mono ?_
      rintro e wF ⟨W, κ2, av2, ab2, rfl, hW, hk2, hWs, bF⟩
      have HW := Lib.hid hW
      have HVF := Lib.hid (HV.out.below bF)
      have BWF := Lib.hid (BWE.out.trans (bF.mono BWE.out.size))
      have NK2 := Lib.hid (show ∀ i, κ2 i ≠ .no → w.heap.size ≤ i from new_nk HM2E.out (by omega) (by omega) (by omega) hk2)
      have DJ := Lib.hid (show ∀ i, κ1 i ≠ .no → κ2 i = .no from kd_apart (by omega) (by omega) (by omega) (by omega) lp1 lq1 ⟨by omega, lp2⟩ ⟨by omega, lq2⟩ RA.out RB.out K1.out HV.out.all hk2)
      have zF := bF.size
      clear hW bF hk2
      have hvk : ∀ a n cc, Value.slice a1 n1 c1 = .slice (some a) n cc → 0 < n → a.block < w.heap.size := picks_blk R1.out
      have HB1 := Lib.hid hvk
      obtain ⟨S0, hS0⟩ : ∃ s, s = s0J (List.replicate 256 0) Js := ⟨_, rfl⟩
      have b0 : S0.cnt = 0 := by rw [hS0]; rfl
      have b1 : S0.clk = 0 := by rw [hS0]; rfl
      have b2 : S0.tr = [] := by rw [hS0]; rfl
      rw [← hS0] at HVF HW
      have B0 := Lib.hid b0
      have B1 := Lib.hid b1
      have B2 := Lib.hid b2
      clear hvk hS0 b0 b1 b2
      go_wp2_with fail
      refine (wRun_any cpUntimed HVF.out (R1.out.below BWF.out) (fun a n cc e hn => Classical.byContradiction fun hk => by have h1 := HB1.out a n cc e hn; have h2 := NK1.out _ hk; omega) (by have := HN1.out; omega) (by rw [B0.out]; omega) (by rw [B0.out]; omega) (by rw [B1.out]; omega) (by rw [B1.out]; omega) (by rw [B2.out]; exact Nat.zero_le _)).mono ?_
      rintro e wG ⟨ov, κ3, tv3, rfl, hR⟩
      obtain ⟨ga, gc, ho⟩ := hR.ev.sl
      obtain ⟨bwG, nk3⟩ := step_bel BWF.out NK1.out hR.kp hR.old
      have HR := Lib.hid hR
      have HWG := Lib.hid (HW.out.keep hR.kp (fun i h2 h1 => h2 (DJ.out i h1)))
      have BWG := Lib.hid bwG
      have NK3 := Lib.hid nk3
      have DJ3 := Lib.hid (show ∀ i, κ2 i ≠ .no → κ3 i = .no from fun i hi => by
        have hlt : i < wF.heap.size := HW.out.all i hi
        rw [hR.old i hlt]
        exact Classical.byContradiction fun h => hi (DJ.out i h))
      have zG := hR.kp.size
      subst ho
      clear hR bwG nk3
      obtain ⟨i0, hi, hz0, hz1, hz2⟩ := info_parts evinfo
      have R1G := Lib.hid (R1.out.below BWG.out)
      have HVK := Lib.hid (show ∀ a n cc, Value.slice a1 n1 c1 = .slice (some a) n cc → 0 < n → κ2 a.block = .no from fun a n cc e hn => Classical.byContradiction fun hk => by have h1 := HB1.out a n cc e hn; have h2 := NK2.out _ hk; omega)
      have hc0 : 0 ≤ S0.cnt := by rw [B0.out]; omega
      have hc1 : S0.cnt ≤ 100000 := by rw [B0.out]; omega
      have hk0 : 0 ≤ S0.clk := by rw [B1.out]; omega
      have hk1 : S0.clk ≤ 1099511627776000 := by rw [B1.out]; omega
      have htr : S0.tr.length ≤ 10000 := by rw [B2.out]; exact Nat.zero_le _
      go_wp2_with fail
      go_loopw [18, 76] (fun ov i wr => ∃ (k : Nat) (κr : Nat → Kd) (tvr : Value), k ≤ n1 ∧ i = .int .i64 k ∧ RunAt cpFam wG wr κ2 W p2 q2 av2 ab2 S0 (Ps.take k) κr tvr ov) (fun _ i _ => n1 - (intOf i).toNat)
      case atStart => exact ⟨0, κ2, nilSl, by omega, rfl, HWG.out, EvRow.nil _ _, fun _ _ => rfl, Keep.refl _ _, Int.le_refl _, by simp [Mac.run], by simp [Mac.run], Int.le_refl _, by simp [Mac.run], by simp [Mac.run], rfl, fun h => h⟩
      case round =>
        obtain ⟨k1, κr, tvr, hk1', rfl, hP⟩ := hrel
        have HP := Lib.hid hP
        obtain ⟨oa, oc, ho⟩ := hP.ev.sl
        obtain ⟨Sr, hSr⟩ : ∃ s, s = (cpFam.M.run S0 (Ps.take k1)).1 := ⟨_, rfl⟩
        obtain ⟨er, her⟩ : ∃ s, s = (cpFam.M.run S0 (Ps.take k1)).2 := ⟨_, rfl⟩
        have q0 := hP.c0
        have q1 := hP.c1
        have q2 := hP.t
        have q3 := hP.k0
        have q4 := hP.k1
        have q5 := hP.n
        have hwo := hP.wo
        have hevr := hP.ev
        have hlk : (Ps.take k1).length ≤ k1 := List.length_take_le _ _
        rw [← hSr] at q0 q1 q2 q3 q4 hwo
        rw [← her] at q5 ho hevr
        subst ho
        have HSR := Lib.hid hSr
        have HER := Lib.hid her
        have zr := hP.kp.size
        clear hP hSr her
        by_cases hlt1 : k1 < n1
        · obtain ⟨g, off, cap, e, _, _, hcell⟩ := R1G.out.row (by rw [List.length_map]; have := HN1.out; omega)
          obtain ⟨P, hPk⟩ : ∃ P, Ps[k1]? = some P := ⟨_, List.getElem?_eq_getElem (by rw [← HN1.out]; exact hlt1)⟩
          have hcs := hcell k1 P.cs (by rw [List.getElem?_map, hPk]; rfl)
          have hkg : κ2 g = .no := HVK.out _ _ _ e (by rw [List.length_map]; have := HN1.out; omega)
          have hcw : ∀ j u, P.cs[j]? = some u → wr.cell? ⟨g, off + k1 * 3 + j, none⟩ = some u := fun j u hj => (HP.out.kp.cell _ (World.block_lt_of_cell? wG _ (hcs j u hj)) (fun hh => hh hkg)).trans (hcs j u hj)
          have htk : Ps.take (k1 + 1) = Ps.take k1 ++ [P] := by
            obtain ⟨hh, hg⟩ := List.getElem?_eq_some_iff.1 hPk
            rw [List.take_succ_eq_append_getElem hh, hg]
          obtain ⟨pk, pa, pn⟩ := P
          have HTK := Lib.hid htk
          have d0 : wr.cell? ⟨g, off + k1 * 3, none⟩ = some (.int .i64 pk) := hcw 0 _ rfl
          have d1 : wr.cell? ⟨g, off + k1 * 3 + 1, none⟩ = some (.int .i64 pa) := hcw 1 _ rfl
          have d2 : wr.cell? ⟨g, off + k1 * 3 + 2, none⟩ = some (.int .i64 pn) := hcw 2 _ rfl
          have hgl : g < wr.heap.size := World.block_lt_of_cell? _ _ d0
          have ea : a1 = some ⟨g, off, none⟩ := by cases e; rfl
          subst ea
          have b5 : Below wr.heap.size wr (wr.alloc (.cells #[.int .i64 pk, .int .i64 pa, .int .i64 pn] 63)) := (Below.refl _ _).alloc (Nat.le_refl _) _
          have H5 := Lib.hid (hwo.below b5)
          have HEVR := Lib.hid hevr
          clear e hcell hcs hcw hPk hkg htk hwo hevr
          go_wp2_with fail
          refine (wPick_any cpUntimed H5.out pk pa pn (by omega) (by omega) (by omega) (by omega) (by omega)).mono ?_
          rintro e w7 ⟨s0, sl, sc, t0, tl, tc, rfl, o1, o2, κ7, tv7, h7, k7, kn7, kp7⟩
          have z5 : (wr.alloc (.cells #[.int .i64 pk, .int .i64 pa, .int .i64 pn] 63)).heap.size = wr.heap.size + 1 := World.size_alloc _ _
          have z7 := kp7.size
          have kp7' : Keep (fun i => κr i ≠ .no) wr w7 := (Below.keeps b5).trans kp7
          have k7' : ∀ i, i < wr.heap.size → κ7 i = κr i := fun i hi => k7 i (by omega)
          have ev7 : EvRow (fun i => wG.heap.size ≤ i ∧ i < w7.heap.size ∧ κ7 i = .no) w7 (.slice oa er.length oc) er := (HEVR.out.keep kp7' (fun i hi hk => hk hi.2.2)).mono (fun i hi => ⟨hi.1, by omega, by rw [k7' i hi.2.1]; exact hi.2.2⟩)
          obtain ⟨E7, hE7⟩ : ∃ E, E = (cpFam.M.pick Sr pk pa pn).2.1 := ⟨_, rfl⟩
          obtain ⟨f7, hf7⟩ : ∃ f, f = (cpFam.M.pick Sr pk pa pn).2.2 := ⟨_, rfl⟩
          rw [← hE7] at o1 o2
          rw [← hE7, ← hf7]
          have HE7 := Lib.hid hE7
          have HF7 := Lib.hid hf7
          have H7 := Lib.hid h7
          have K7 := Lib.hid k7'
          have KN7 := Lib.hid kn7
          have KP7 := Lib.hid kp7'
          have EV7 := Lib.hid ev7
          have O1 := Lib.hid (OwB.mono o1 (B' := wr.heap.size) (by omega))
          have O2 := Lib.hid (OwB.mono o2 (B' := wr.heap.size) (by omega))
          have z7' : wr.heap.size < w7.heap.size := by omega
          have b8 : ∀ o, Below w7.heap.size w7 (w7.alloc o) := fun o => (Below.refl _ _).alloc (Nat.le_refl _) o
          have B8 := Lib.hid b8
          clear hE7 hf7 h7 k7 kn7 kp7 kp7' k7' ev7 o1 o2 z5 z7 b5 b8 d0 d1 d2
          unfold evV
          by_cases hf0 : f7 = 0
          · subst hf0
            obtain ⟨es, he, ho, hp, hall⟩ := EV7.out
            have hel : es.length = er.length := by rw [← he, List.length_map]
            have bX : Below w7.heap.size w7 ((w7.alloc (Obj.cells #[.int .i64 E7.pk, .int .i64 E7.pa, .int .i64 E7.pn, .int .i64 E7.c.k, .int .i64 E7.c.a, .int .i64 E7.c.n, .int .u64 E7.c.v, .int .u64 E7.c.x, .slice s0 sl sc, .int .u64 E7.x.v, .bool E7.x.d, .slice t0 tl tc] 66)).alloc (Obj.cells #[.int .i64 E7.pk, .int .i64 E7.pa, .int .i64 E7.pn, .int .i64 E7.c.k, .int .i64 E7.c.a, .int .i64 E7.c.n, .int .u64 E7.c.v, .int .u64 E7.c.x, .slice s0 sl sc, .int .u64 E7.x.v, .bool E7.x.d, .slice t0 tl tc] 66)) := (B8.out _).trans ((Below.alloc (Below.refl _ _) (Nat.le_refl _) _).mono (B8.out _).size)
            have HE := Lib.hid he
            have HP' := Lib.hid hp
            have HALL := Lib.hid hall
            have OW := Lib.hid (ownsRow_keep ho (Below.keeps (M := fun _ => False) bX) (fun _ _ => id))
            have NB := Lib.hid (show Blk ((w7.alloc (Obj.cells #[.int .i64 E7.pk, .int .i64 E7.pa, .int .i64 E7.pn, .int .i64 E7.c.k, .int .i64 E7.c.a, .int .i64 E7.c.n, .int .u64 E7.c.v, .int .u64 E7.c.x, .slice s0 sl sc, .int .u64 E7.x.v, .bool E7.x.d, .slice t0 tl tc] 66)).alloc (Obj.cells #[.int .i64 E7.pk, .int .i64 E7.pa, .int .i64 E7.pn, .int .i64 E7.c.k, .int .i64 E7.c.a, .int .i64 E7.c.n, .int .u64 E7.c.v, .int .u64 E7.c.x, .slice s0 sl sc, .int .u64 E7.x.v, .bool E7.x.d, .slice t0 tl tc] 66)) (w7.heap.size + 1) (evC E7.pk E7.pa E7.pn E7.c (.slice s0 sl sc) E7.x (.slice t0 tl tc)) from (World.size_alloc w7 _ : (w7.alloc (Obj.cells #[.int .i64 E7.pk, .int .i64 E7.pa, .int .i64 E7.pn, .int .i64 E7.c.k, .int .i64 E7.c.a, .int .i64 E7.c.n, .int .u64 E7.c.v, .int .u64 E7.c.x, .slice s0 sl sc, .int .u64 E7.x.v, .bool E7.x.d, .slice t0 tl tc] 66)).heap.size = w7.heap.size + 1) ▸ Blk.made (w7.alloc (Obj.cells #[.int .i64 E7.pk, .int .i64 E7.pa, .int .i64 E7.pn, .int .i64 E7.c.k, .int .i64 E7.c.a, .int .i64 E7.c.n, .int .u64 E7.c.v, .int .u64 E7.c.x, .slice s0 sl sc, .int .u64 E7.x.v, .bool E7.x.d, .slice t0 tl tc] 66)) _ _)
            have BX := Lib.hid bX
            have zX : ((w7.alloc (Obj.cells #[.int .i64 E7.pk, .int .i64 E7.pa, .int .i64 E7.pn, .int .i64 E7.c.k, .int .i64 E7.c.a, .int .i64 E7.c.n, .int .u64 E7.c.v, .int .u64 E7.c.x, .slice s0 sl sc, .int .u64 E7.x.v, .bool E7.x.d, .slice t0 tl tc] 66)).alloc (Obj.cells #[.int .i64 E7.pk, .int .i64 E7.pa, .int .i64 E7.pn, .int .i64 E7.c.k, .int .i64 E7.c.a, .int .i64 E7.c.n, .int .u64 E7.c.v, .int .u64 E7.c.x, .slice s0 sl sc, .int .u64 E7.x.v, .bool E7.x.d, .slice t0 tl tc] 66)).heap.size = w7.heap.size + 2 := by rw [World.size_alloc, World.size_alloc]
            have ZX := Lib.hid zX
            have hkl : es.length ≤ 100000 := by omega
            clear he ho hp hall bX zX
            go_wp2_with (refine list_app1 rfl (.tmp 88) (.tmp 90) 70 66 rfl Try.underlying70 hi hz0 hz1 hz2 rfl (by decide) (.slice oa er.length oc) es.length (es.flatMap evL) rfl OW.out (w7.heap.size + 1) (evC E7.pk E7.pa E7.pn E7.c (.slice s0 sl sc) E7.x (.slice t0 tl tc)) rfl NB.out rfl (ones_ev _ _ _ _ _ _ _ _ _ _ _) (by omega) (by unfold maxLen; omega) ?_)
            intro v3 w3 o3 g3 e3
            rw [← hel] at o3
            have K3 := grown_keep g3
            have z3 := K3.size
            have zX := ZX.out
            have hall' : ∀ e ∈ es, OwB 5 0 ((w7.alloc (Obj.cells #[.int .i64 E7.pk, .int .i64 E7.pa, .int .i64 E7.pn, .int .i64 E7.c.k, .int .i64 E7.c.a, .int .i64 E7.c.n, .int .u64 E7.c.v, .int .u64 E7.c.x, .slice s0 sl sc, .int .u64 E7.x.v, .bool E7.x.d, .slice t0 tl tc] 66)).alloc (Obj.cells #[.int .i64 E7.pk, .int .i64 E7.pa, .int .i64 E7.pn, .int .i64 E7.c.k, .int .i64 E7.c.a, .int .i64 E7.c.n, .int .u64 E7.c.v, .int .u64 E7.c.x, .slice s0 sl sc, .int .u64 E7.x.v, .bool E7.x.d, .slice t0 tl tc] 66)) e.2.1 e.1.c.b ∧ OwB 5 0 ((w7.alloc (Obj.cells #[.int .i64 E7.pk, .int .i64 E7.pa, .int .i64 E7.pn, .int .i64 E7.c.k, .int .i64 E7.c.a, .int .i64 E7.c.n, .int .u64 E7.c.v, .int .u64 E7.c.x, .slice s0 sl sc, .int .u64 E7.x.v, .bool E7.x.d, .slice t0 tl tc] 66)).alloc (Obj.cells #[.int .i64 E7.pk, .int .i64 E7.pa, .int .i64 E7.pn, .int .i64 E7.c.k, .int .i64 E7.c.a, .int .i64 E7.c.n, .int .u64 E7.c.v, .int .u64 E7.c.x, .slice s0 sl sc, .int .u64 E7.x.v, .bool E7.x.d, .slice t0 tl tc] 66)) e.2.2 e.1.x.b ∧ ∀ i, e.2.1.ownBlock = some i ∨ e.2.2.ownBlock = some i → wG.heap.size ≤ i ∧ i < w7.heap.size ∧ κ7 i = .no := by
              intro x hx
              obtain ⟨a1, a2, a3⟩ := HALL.out x hx
              exact ⟨OwB.keepQ a1 (Below.keeps (M := fun _ => False) BX.out) (fun _ _ => id), OwB.keepQ a2 (Below.keeps (M := fun _ => False) BX.out) (fun _ _ => id), a3⟩
            have o1x := OwB.keepQ O1.out (Below.keeps (M := fun _ => False) BX.out) (fun _ _ => id)
            have o2x := OwB.keepQ O2.out (Below.keeps (M := fun _ => False) BX.out) (fun _ _ => id)
            have big : ∀ i, w7.heap.size ≤ i → κ7 i = .no := fun i hi => no_big H7.out hi
            have hnew := EvRow.push (P := fun i => wG.heap.size ≤ i ∧ i < w3.heap.size ∧ κ7 i = .no) HE.out OW.out (fun i hi => ⟨(HP'.out i hi).1, by have := (HP'.out i hi).2.1; omega, (HP'.out i hi).2.2⟩) (fun e he => ⟨(hall' e he).1, (hall' e he).2.1, fun i hi => ⟨((hall' e he).2.2 i hi).1, by have := ((hall' e he).2.2 i hi).2.1; omega, ((hall' e he).2.2 i hi).2.2⟩⟩) (sv := .slice s0 sl sc) (sx := .slice t0 tl tc) (OwB.mono o1x (Nat.zero_le _)) (OwB.mono o2x (Nat.zero_le _)) (fun i hi' => by
              refine ⟨?_, ?_, KN7.out i hi'⟩
              · rcases hi' with hi' | hi'
                · have := (World.ownsRow.lt O1.out i hi').1
                  omega
                · have := (World.ownsRow.lt O2.out i hi').1
                  omega
              · rcases hi' with hi' | hi'
                · have := (World.ownsRow.lt O1.out i hi').2
                  omega
                · have := (World.ownsRow.lt O2.out i hi').2
                  omega) K3 o3 (e3.imp id fun h => ⟨_, h, by
                    have := (World.ownsRow.lt o3 _ h).2
                    exact ⟨by omega, this, big _ (by omega)⟩⟩)
            have HN := Lib.hid hnew
            have K3' := Lib.hid K3
            have BX2 := Lib.hid ((Below.keeps (M := fun i => (Value.slice oa er.length oc).ownBlock = some i) BX.out).trans K3)
            clear hnew hall' o3 g3 e3 K3 o1x o2x zX
            go_wp2
            refine ⟨⟨k1 + 1, κ7, tv7, by omega, by go_num, ?_⟩, by simp [intOf]; omega⟩
            rw [HTK.out]
            refine HP.out.step ⟨pk, pa, pn⟩ (by rw [← HSR.out]; exact H7.out) K7.out KP7.out BX2.out (fun i hi => ⟨(HP'.out i hi).1, (HP'.out i hi).2.2⟩) ?_
            have e1 : (cpFam.M.run1 (cpFam.M.run S0 (Ps.take k1)) ⟨pk, pa, pn⟩).2 = er ++ [E7] := by
              unfold Mac.run1
              dsimp only
              rw [← HSR.out, ← HER.out, ← HF7.out, if_pos rfl, ← HE7.out]
            rw [e1]
            exact HN.out
          · go_wp2
            refine ⟨⟨k1 + 1, κ7, tv7, by omega, by go_num, ?_⟩, by simp [intOf]; omega⟩
            have hk : Keep (fun _ => False) w7 (w7.alloc (Obj.cells #[.int .i64 E7.pk, .int .i64 E7.pa, .int .i64 E7.pn, .int .i64 E7.c.k, .int .i64 E7.c.a, .int .i64 E7.c.n, .int .u64 E7.c.v, .int .u64 E7.c.x, .slice s0 sl sc, .int .u64 E7.x.v, .bool E7.x.d, .slice t0 tl tc] 66)) := Below.keeps (B8.out _)
            rw [HTK.out]
            refine HP.out.step ⟨pk, pa, pn⟩ (by rw [← HSR.out]; exact H7.out) K7.out KP7.out hk (fun _ => False.elim) ?_
            have e1 : (cpFam.M.run1 (cpFam.M.run S0 (Ps.take k1)) ⟨pk, pa, pn⟩).2 = er := by
              unfold Mac.run1
              dsimp only
              rw [← HSR.out, ← HER.out, ← HF7.out, if_neg hf0]
            rw [e1]
            have z8 := (B8.out (Obj.cells #[.int .i64 E7.pk, .int .i64 E7.pa, .int .i64 E7.pn, .int .i64 E7.c.k, .int .i64 E7.c.a, .int .i64 E7.c.n, .int .u64 E7.c.v, .int .u64 E7.c.x, .slice s0 sl sc, .int .u64 E7.x.v, .bool E7.x.d, .slice t0 tl tc] 66)).size
            exact (EV7.out.below (B8.out _)).mono (fun i hi => ⟨hi.1, by omega, hi.2.2⟩)
        · obtain rfl : k1 = n1 := by omega
          have hq := HP.out
          rw [List.take_of_length_le (by rw [← HN1.out]; exact Nat.le_refl _)] at hq
          have HQ := Lib.hid hq
          obtain ⟨bwr, nkr⟩ := step_bel BWG.out NK2.out hq.kp hq.old
          have HVR := Lib.hid (HR.out.wo.keep hq.kp (fun i h3 h2 => h3 (DJ3.out i h2)))
          have EVG := Lib.hid (HR.out.ev.keep hq.kp (fun i h3 h2 => by have h4 := HW.out.all i h2; have h5 := h3.1; omega))
          have BWR := Lib.hid bwr
          clear hq bwr nkr hevr hwo
          have hl6 : (cpFam.M.run S0 Ps).1.tr.length ≤ 100000 := by
            have h1 := HR.out.t
            rw [B2.out] at h1
            have := HN1.out
            simp at h1
            omega
          have HL6 := Lib.hid hl6
          clear hl6
          go_wp2_with fail
          refine (wTrace_any HVR.out HL6.out (HR.out.few (fun e h => by rw [B2.out] at h; cases h))).mono ?_
          rintro e w6 ⟨v6, rfl, he6, b6⟩
          obtain ⟨E6, hE6, hX6⟩ := he6.trX
          obtain ⟨xa, xc, rfl⟩ := hX6.sl
          have HX6 := Lib.hid hX6
          have B6 := Lib.hid b6
          have BW6 := Lib.hid (BWR.out.trans (b6.mono BWR.out.size))
          have hE6n : E6.length ≤ 100000 := by
            have := HL6.out
            rw [← hE6, List.length_map] at this
            exact this
          have HFW := Lib.hid (show ∀ x ∈ E6, x.1.c.b.length ≤ 70368744177664 from fun x hx => (HR.out.few (fun e h => by rw [B2.out] at h; cases h) x.1 (hE6 ▸ List.mem_map_of_mem hx)).1)
          have z6 := b6.size
          obtain ⟨w0x, hw0x⟩ : ∃ v, v = wr := ⟨_, rfl⟩
          obtain ⟨BX0, hBX0⟩ : ∃ v, v = wr.heap.size := ⟨_, rfl⟩
          have HBX0 := Lib.hid hBX0
          have HW0X := Lib.hid hw0x
          clear hw0x hBX0
          clear hX6 b6 he6 hE6
          go_wp2_with fail
          go_loopw [96] (fun i wx => ∃ k : Nat, k ≤ E6.length ∧ i = .int .i64 k ∧ TrX wr.heap.size wx (.slice xa E6.length xc) E6 ∧ Below wr.heap.size wr wx) (fun i _ => E6.length - (intOf i).toNat)
          case atStart => exact ⟨0, by omega, rfl, HX6.out, B6.out⟩
          case round =>
            obtain ⟨k6, hk6, rfl, hX, hBx⟩ := hrel
            by_cases hlt6 : k6 < E6.length
            · obtain ⟨x, hx⟩ : ∃ e, E6[k6]? = some e := ⟨_, List.getElem?_eq_getElem hlt6⟩
              have hrow := hX.row
              rcases hX.row.2 with ⟨_, e⟩ | ⟨g6, cap6, cur6, e, _⟩
              · omega
              obtain rfl : xa = some ⟨g6, 0, none⟩ := by cases e; rfl
              have hcc := fun j u hj => row_cells hrow hx j u hj
              have hown := hX.bs x (List.mem_of_getElem? hx)
              have hob := hX.hb x (List.mem_of_getElem? hx)
              obtain ⟨ta6, tl6, tc6, ht6⟩ := hX.sx x (List.mem_of_getElem? hx)
              obtain ⟨e6, s6, t6⟩ := x
              dsimp only at hown hob ht6
              subst ht6
              obtain ⟨sa, sc, rfl⟩ := hown.sl
              have d0 : wr.cell? ⟨g6, k6 * 12, none⟩ = some (.int .i64 e6.pk) := hcc 0 _ rfl
              have d1 : wr.cell? ⟨g6, k6 * 12 + 1, none⟩ = some (.int .i64 e6.pa) := hcc 1 _ rfl
              have d2 : wr.cell? ⟨g6, k6 * 12 + 2, none⟩ = some (.int .i64 e6.pn) := hcc 2 _ rfl
              have d3 : wr.cell? ⟨g6, k6 * 12 + 3, none⟩ = some (.int .i64 e6.c.k) := hcc 3 _ rfl
              have d4 : wr.cell? ⟨g6, k6 * 12 + 4, none⟩ = some (.int .i64 e6.c.a) := hcc 4 _ rfl
              have d5 : wr.cell? ⟨g6, k6 * 12 + 5, none⟩ = some (.int .i64 e6.c.n) := hcc 5 _ rfl
              have d6 : wr.cell? ⟨g6, k6 * 12 + 6, none⟩ = some (.int .u64 e6.c.v) := hcc 6 _ rfl
              have d7 : wr.cell? ⟨g6, k6 * 12 + 7, none⟩ = some (.int .u64 e6.c.x) := hcc 7 _ rfl
              have d8 : wr.cell? ⟨g6, k6 * 12 + 8, none⟩ = some (.slice sa e6.c.b.length sc) := hcc 8 _ rfl
              have d9 : wr.cell? ⟨g6, k6 * 12 + 9, none⟩ = some (.int .u64 e6.x.v) := hcc 9 _ rfl
              have d10 : wr.cell? ⟨g6, k6 * 12 + 10, none⟩ = some (.bool e6.x.d) := hcc 10 _ rfl
              have d11 : wr.cell? ⟨g6, k6 * 12 + 11, none⟩ = some (.slice ta6 tl6 tc6) := hcc 11 _ rfl
              have hg6 : g6 < wr.heap.size := World.block_lt_of_cell? _ _ d0
              have HXo := Lib.hid hX
              have HBxo := Lib.hid hBx
              have HHB := Lib.hid hob
              have hns : e6.c.b.length ≤ 70368744177664 := HFW.out _ (List.mem_of_getElem? hx)
              obtain ⟨X6, hX6⟩ : ∃ n, n = wr.heap.size := ⟨_, rfl⟩
              have HX6e := Lib.hid hX6
              clear hcc hob hrow hX hBx hx e hX6
              obtain ⟨n6, hn6⟩ : ∃ n, n = e6.c.b.length := ⟨_, rfl⟩
              rw [← hn6] at d8 hown hns
              have HOW := Lib.hid hown
              have HNS := Lib.hid hns
              clear hn6 hown hns
              go_wp2_with fail
              go_loopw [104] (fun i wy => ∃ j : Nat, j ≤ n6 ∧ i = .int .i64 j ∧ TrX BX0 wy (.slice (some ⟨g6, 0, none⟩) E6.length xc) E6 ∧ OwN wy (.slice sa n6 sc) n6 ∧ Below BX0 w0x wy ∧ X6 < wy.heap.size ∧ wy.cell? ⟨X6, 8, none⟩ = some (.slice sa n6 sc)) (fun i _ => n6 - (intOf i).toNat)
              case atStart =>
                refine ⟨0, by omega, rfl, ?_, ?_, ?_, ?_, ?_⟩
                · rw [HBX0.out]
                  exact HXo.out.below ((Below.refl _ _).alloc (Nat.le_refl _) _)
                · exact HOW.out.below ((Below.refl _ _).alloc (Nat.le_refl _) _)
                · rw [HBX0.out, HW0X.out]
                  exact HBxo.out.alloc HBxo.out.size _
                · rw [HX6e.out]
                  simp
                · rw [HX6e.out]
                  exact (Blk.made _ _ _).cell 8
              case round =>
                obtain ⟨j, hj, rfl, hXy, hOy, hBy, hly, hcy⟩ := hrel
                obtain rfl := HX6e.out
                have hns := HNS.out
                clear HX6e HNS
                by_cases hltj : j < n6
                · obtain ⟨gj, cj, ej, hj1, bj, hbj, hfz⟩ := hOy.blk hltj
                  obtain rfl : sa = some ⟨gj, 0, none⟩ := by cases ej; rfl
                  obtain ⟨gj', cj', ej', _, bj', hbj', _⟩ := HOW.out.blk hltj
                  have hgl := World.block_lt_of_cell? _ _ hbj'
                  obtain rfl : gj = gj' := by cases ej'; rfl
                  obtain rfl : sc = cj := by cases ej; rfl
                  have HXY := Lib.hid hXy
                  have HOY := Lib.hid hOy
                  have HBY := Lib.hid hBy
                  have HHG := Lib.hid (HHB.out gj rfl)
                  have HGL := Lib.hid hgl
                  clear hXy hOy hBy ej ej' hbj' HHB hgl
                  go_wp2_with fail
                  have hgl := HGL.out
                  refine ⟨⟨j + 1, by omega, by go_num, HXY.out.set HOY.out rfl hltj _, HOY.out.set HOY.out rfl hltj _, HBY.out.setCell (by rw [HBX0.out]; exact HHG.out) _, ?_, ?_⟩, by simp [intOf]; omega⟩
                  · simpa using hly
                  · rw [Keep.cell (Keep.setCell (M := (· = gj)) (Keep.refl _ _) (p := ⟨gj, j, none⟩) (.inl rfl) _) 8 hly (by intro e; have hgl2 := hgl; simp at hgl2; omega)]
                    exact hcy
                · obtain rfl : j = n6 := by omega
                  go_wp2_with fail
                  refine ⟨⟨k6 + 1, by omega, by go_num, by rw [← HBX0.out]; exact hXy, by rw [← HBX0.out, ← HW0X.out]; exact hBy⟩, by simp [intOf]; omega⟩
            · obtain rfl : k6 = E6.length := by omega
              have htr6 : (cpFam.M.run S0 Ps).1.tr = (cpFam.M.run S0 Ps).2 := (run_tr cpFam.M S0 Ps).trans (by rw [show (S0 : SW cpFam.M.σ).tr = [] from B2.out]; rfl)
              have hln : (cpFam.M.run S0 Ps).2.length ≤ 100000 := by rw [← htr6]; exact HL6.out
              have HTR := Lib.hid htr6
              have HLN := Lib.hid hln
              have BX := Lib.hid hBx
              clear hX hBx htr6 hln
              go_wp2_with fail
              refine (same06_any HLN.out (EVG.out.below BX.out) (HQ.out.ev.below BX.out)).mono ?_
              rintro e w8 ⟨rfl, b8⟩
              have B8 := Lib.hid (BX.out.trans (b8.mono BX.out.size))
              clear b8
              go_wp2_with fail
              refine (wTrace_any (HVR.out.below B8.out) HL6.out (HR.out.few (fun e h => by rw [B2.out] at h; cases h))).mono ?_
              rintro e w9 ⟨v9, rfl, he9, b9⟩
              rw [HTR.out] at he9
              have HE9 := Lib.hid he9
              have B9 := Lib.hid (B8.out.trans (b9.mono B8.out.size))
              clear he9 b9
              go_wp2_with fail
              refine (same06_any HLN.out HE9.out (EVG.out.below B9.out)).mono ?_
              rintro e w10 ⟨rfl, b10⟩
              have B10 := Lib.hid (BWR.out.trans ((B9.out.trans (b10.mono B9.out.size)).mono BWR.out.size))
              clear b10
              go_wp2
              go_ret
              exact ⟨rfl, B10.out⟩
end Go.Proofs.Ythaglmlkillhdaa
end
section
namespace Go.Proofs.Ythaglmlkillhdaa.schedRuns
open Go.ChangeShapes Go.WideShapes Go.ChangeAt Go.RowKit
set_option linter.unusedVariables false
set_option maxRecDepth 100000
theorem own : ownKnob Try.prog.godebug = none := by kernel_rfl
theorem laidOut : laidOutB Try.prog = true := by kernel_rfl
theorem contract (H : Type) (enc : TypeId × Value → H) (W : World) (base : Nat) (args : Array Value) (ds gs : List (DataW H)) (before : List MemPlace)
    (hval : ∀ (j : Nat) t v, Try.f6.params[j]? = some t → args[j]? = some v → Value.okWide Try.prog W .any base t v)
    (hW : DataW.Whole enc Try.prog Try.f6.params.toList Rows.schedRunsSpec.vars false W args.toList ds gs before) :
    Calls Try.prog 6 args W fun e W' => ∃ v, e = .returned v ∧ Rows.schedRunsSpec.post enc Try.prog Try.f6 false true false false W args v W' := by
  have hW' := hW
  obtain ⟨p, q, hA0, hV, rfl, hfz, hnd⟩ := hW
  have hA : DataW.TrodAll enc Try.prog W 0 (fun _ => true) true Try.f6.params.toList args.toList ds p := hA0
  rw [Try.params6] at hA hval
  obtain ⟨v0, vs0, d0, ds0, p0, q0, hargs, rfl, rfl, h0, r0'⟩ := trodAll_cons hA
  obtain ⟨v1, vs1, d1, ds1, p1, q1, rfl, rfl, rfl, h1, r1'⟩ := trodAll_cons r0'
  obtain ⟨rfl, rfl, rfl⟩ := trodAll_nil r1'
  obtain rfl : args = #[v0, v1] := by cases args; simp_all
  obtain ⟨rfl, rfl⟩ := trodVars_none hV
  have k0 := h0
  have lt0 : ∀ x ∈ p0, x.block < W.heap.size := by obtain ⟨m, hm⟩ := k0; exact DataW.trod_lt m _ _ _ hm
  have k1 := h1
  have lt1 : ∀ x ∈ p1, x.block < W.heap.size := by obtain ⟨m, hm⟩ := k1; exact DataW.trod_lt m _ _ _ hm
  obtain ⟨J0, rd0, jo0⟩ := open_jobs (hval 0 49 v0 rfl rfl) h0
  obtain ⟨P1, rd1, po1⟩ := open_picks (hval 1 50 v1 rfl rfl) h1
  clear hA0
  refine (runs_said v0 J0 v1 P1 W rd0 jo0 rd1 po1).mono fun e W' ⟨he, bel⟩ => ?_
  subst he
  exact ⟨_, rfl, _, _, _, [], _, [], hW', trodAll_mk1 (shut_bool Try.underlying4 _), (trodAll_cons_mk (Below.trod laidOut (by kernel_rfl) (of_decide_eq_true (by kernel_rfl)) k0 bel lt0) (trodAll_cons_mk (Below.trod laidOut (by kernel_rfl) (of_decide_eq_true (by kernel_rfl)) k1 bel lt1) trodAll_mk0)), rfl, bel.frame _, fun h => by cases h⟩
theorem lifted (os : Os) (started : os.Started) (H : Type) (enc : TypeId × Value → H) :
    ReturnsInHanded {} Try.checked os 6 .any (Rows.schedRunsSpec.pre6 enc Try.prog Try.f6 Rows.schedRunsRow.domain false) (Rows.schedRunsSpec.post enc Try.prog Try.f6 false true false false) := by
  refine returnsInHanded_of_change (C := Try.checked) own started (by kernel_rfl) Try.func6
    (ChangeSpec.witness6 (enc := enc) (C := Try.checked) false ⟨#[], #[.slice none 0 0, .slice none 0 0], []⟩ 8 (by kernel_rfl) (by kernel_rfl) (by kernel_rfl) (by kernel_rfl)) ?_
  intro W base args ds gs before hval hW _ _
  exact contract H enc W base args ds gs before hval hW
theorem proved : Rows.SchedRunsSaid :=
  OpenClaim.holds_of_wide 6 Try.f6 rfl rfl rfl rfl rfl rfl rfl ⟨rfl, rfl, rfl, rfl, rfl⟩ rfl rfl rfl rfl rfl (by kernel_rfl) Try.func6 (by kernel_rfl)
    (of_decide_eq_true (by kernel_rfl)) (by unfold Func.isWrapper; first | (rw [if_pos (by decide +kernel)]; kernel_rfl) | (rw [if_neg (by decide +kernel)]; exact ⟨rfl, rfl⟩))
    (fun os started H enc _ => lifted os started H enc)
#print axioms proved
end Go.Proofs.Ythaglmlkillhdaa.schedRuns
end
