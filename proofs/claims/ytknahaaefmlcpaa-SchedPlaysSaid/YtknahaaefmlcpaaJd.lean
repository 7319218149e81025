/- ref06.World.Robin. Conditions: as it says. -/
import Derived.Test.YtknahaaefmlcpaaJg
namespace Go.Proofs.Ytknahaaefmlcpaa
set_option maxRecDepth 100000
open Go.RowKit
set_option linter.unusedVariables false
set_option linter.unusedSimpArgs false
def RrPost (w : World) (κ : Nat → Kd) (R bb : Nat) (jv : Value) (N n : Nat) (P : SW CpM × Int) (e : Ending) (w' : World) : Prop :=
  e = .returned (.int .i64 P.2) ∧ ∃ κ' tv' J', RoIn w' κ' R bb jv tv' J' P.1 ∧ (∀ i, i < w.heap.size → κ' i = κ i) ∧ (∀ j ∈ J', j.T.length ≤ N + 1000) ∧ J'.length = n ∧ Keep (fun i => κ i ≠ .no) w w'
/-- Where Robin stands. -/
structure RRob (w : World) (κ : Nat → Kd) (R bb : Nat) (jv : Value) (N len : Nat) (S0 : SW CpM) (most : Int) (wr : World) (S : SW CpM) (n : Int) : Prop where
  ex : ∃ κ1 tv1 J1, RoIn wr κ1 R bb jv tv1 J1 S ∧ (∀ i, i < w.heap.size → κ1 i = κ i) ∧ (∀ j ∈ J1, j.T.length ≤ N + n.toNat) ∧ J1.length = len
  kp : Keep (fun i => κ i ≠ .no) w wr
  n0 : 0 ≤ n
  n1 : n ≤ max most 0
  k0 : 0 ≤ S.clk
  k1 : S.clk ≤ S0.clk + n * 1099511627776
  t1 : (S.tr.length : Int) ≤ S0.tr.length + n
theorem RoIn.al {w : World} {κ : Nat → Kd} {R bb : Nat} {jv tv : Value} {J : List JbS} {S : SW CpM} (h : RoIn w κ R bb jv tv J S) : S.acts.length = J.length := by rw [h.st, List.length_map]
theorem RoIn.at_ {w : World} {κ : Nat → Kd} {R bb : Nat} {jv tv : Value} {J : List JbS} {S : SW CpM} (h : RoIn w κ R bb jv tv J S) {j : Nat} {a : JbS} (ha : J[j]? = some a) : S.acts[j]? = some a.ac := by
  rw [h.st, List.getElem?_map, ha]
  rfl
theorem goes_job (M : Mac) (S : SW M.σ) (j : Nat) (s : M.σ) (d : Bool) (h : S.acts[j]? = some ⟨some s, d⟩) : M.goesAt S j = (M.live s && !d) := by
  unfold Mac.goesAt
  rw [h]
  rfl
set_option maxHeartbeats 4000000 in
theorem rRobin_row {w : World} {κ : Nat → Kd} {R bb : Nat} {jv tv : Value} {J : List JbS} {S : SW cpMac.σ} (h : RoIn w κ R bb jv tv J S) (most : Int) (hm : most ≤ 900) (N : Nat) (hN : N ≤ 90000) (hl : ∀ j ∈ J, j.T.length ≤ N) (hk0 : 0 ≤ S.clk) (hk1 : S.clk ≤ 1152921504606846976) (htr : S.tr.length ≤ 50000) (ga len gc : Nat) (hjv : jv = .slice (some ⟨ga, 0, none⟩) len gc) (hlen : len = J.length) (hl1 : len ≤ 1000000) :
    Calls Try.prog 13 #[.pointer (some ⟨R, 0, none⟩), .int .i64 most] w (RrPost w κ R bb jv N len (cpMac.robin most S)) := by
  have hal : S.acts.length = len := h.al.trans hlen.symm
  have A0 := Lib.hid (show RRob w κ R bb jv N len S most w S 0 from ⟨⟨κ, tv, J, h, fun _ _ => rfl, fun j hj => by have := hl j hj; omega, hlen.symm⟩, Keep.refl _ _, by omega, by omega, hk0, by omega, by omega⟩)
  have HAL := Lib.hid hal
  subst hjv
  clear h hl hlen hal
  go_enter Try.func13, Try.ntmps13
  go_wp2_with fail
  go_loopw [5, 6] (fun nv gv wr => ∃ (S1 : SW cpMac.σ) (n : Int) (g : Bool) (f : Nat), nv = .int .i64 n ∧ gv = .bool g ∧ RRob w κ R bb (.slice (some ⟨ga, 0, none⟩) len gc) N len S most wr S1 n ∧ (g = true → cpMac.rob most f S1 n = cpMac.robin most S ∧ most + 2 ≤ f + n ∧ 1 ≤ f) ∧ (g = false → (S1, n) = cpMac.robin most S)) (fun nv gv _ => most.toNat + 1 - (intOf nv).toNat + bN gv)
  case atStart => exact ⟨S, 0, true, most.toNat + 2, rfl, rfl, A0.out, fun _ => ⟨rfl, by omega, by omega⟩, (fun h => by cases h)⟩
  case round =>
    obtain ⟨S1, n, g, f, rfl, rfl, hA, hg1, hg2⟩ := hrel
    have HA := Lib.hid hA
    have HG1 := Lib.hid hg1
    have HG2 := Lib.hid hg2
    have hn0 := hA.n0
    have hn1 := hA.n1
    have ht1 := hA.t1
    obtain ⟨κ1, tv1, J1, hRo, hκ1, hJl, hJn⟩ := hA.ex
    have hc1 := hRo.cells.2.1
    have HS1 := Lib.hid (show S1.acts.length = len from hRo.al.trans hJn)
    clear hA hg1 hg2 hRo hκ1 hJl hJn
    cases g with
    | false =>
      go_wp2
      go_ret
      obtain ⟨κ2, tv2, J2, h1, h2, h3, h4⟩ := HA.out.ex
      rw [← HG2.out (by trivial)]
      exact ⟨rfl, κ2, tv2, J2, h1, h2, fun j hj => by have := h3 j hj; omega, h4, HA.out.kp⟩
    | true =>
      obtain ⟨hrob, hf, hf1⟩ := HG1.out rfl
      have HROB := Lib.hid hrob
      clear hrob
      go_wp2_with fail
      obtain ⟨wo, rfl⟩ : ∃ wo : World, wo = wr := ⟨_, rfl⟩
      go_loopw [5, 6, 16] (fun nv gv iv wr => ∃ (S2 : SW cpMac.σ) (n2 : Int) (g2 : Bool) (j : Nat), nv = .int .i64 n2 ∧ gv = .bool g2 ∧ iv = .int .i64 j ∧ j ≤ len ∧ RRob w κ R bb (.slice (some ⟨ga, 0, none⟩) len gc) N len S most wr S2 n2 ∧ cpMac.row most ((List.range len).drop j) S2 n2 g2 = cpMac.row most (List.range S1.acts.length) S1 n false ∧ n ≤ n2 ∧ (g2 = true → n < n2)) (fun _ _ iv _ => len - (intOf iv).toNat)
      case atStart => exact ⟨S1, n, false, 0, rfl, rfl, rfl, by omega, HA.out, by rw [HS1.out]; rfl, by omega, fun h => by cases h⟩
      case round =>
        obtain ⟨S2, n2, g2, j, rfl, rfl, rfl, hj, hA2, hrow, hn2, hg2⟩ := hrel
        have HA2 := Lib.hid hA2
        have HROW := Lib.hid hrow
        have HG := Lib.hid hg2
        have hn20 := hA2.n0
        have hn21 := hA2.n1
        have ht2 := hA2.t1
        have hkk0 := hA2.k0
        have hkk1 := hA2.k1
        obtain ⟨κ2, tv2, J2, hRo, hκ2, hJl, hJn⟩ := hA2.ex
        have HW := Lib.hid hRo
        have HK2 := Lib.hid hκ2
        have HJL := Lib.hid hJl
        have HJN := Lib.hid hJn
        have hRlt := hRo.hd.lt
        have hc2 := hRo.cells.2.1
        clear hA2 hrow hg2 hRo hκ2 hJl hJn
        by_cases hlt : j < len
        · obtain ⟨a, ha⟩ : ∃ a, J2[j]? = some a := ⟨_, List.getElem?_eq_getElem (by rw [HJN.out]; exact hlt)⟩
          obtain ⟨g', cap, e, _, _, _, gl, hcell, _⟩ := HW.out.job ha
          have eg : g' = ga := by cases e; rfl
          subst eg
          have HGo := Lib.hid (show cpMac.goesAt S2 j = (a.mac.live && !a.d) from goes_job cpMac S2 j a.mac a.d (HW.out.at_ ha))
          have JIN := Lib.hid (HW.out.jobs a (List.mem_of_getElem? ha))
          have JTL := Lib.hid (HJL.out a (List.mem_of_getElem? ha))
          have JOK := Lib.hid (JIN.out.ok (by have := JTL.out; omega))
          have key := jNext_any a wr JOK.out
          unfold JbS.cs at hcell key
          obtain ⟨m, hm⟩ : ∃ m, m = a.mac := ⟨_, rfl⟩
          rw [← hm] at HGo key
          clear e hm ha
          obtain ⟨jk, jA, jn, js, jb, jt, jT, jd⟩ := a
          dsimp only at key hcell HGo
          obtain ⟨sa, sl', sc', hs⟩ := JIN.out.s
          obtain ⟨ta, tn, ht⟩ := rdA_slice (show RdA wr jt jT from JIN.out.an.rdA)
          dsimp only at hs
          subst hs ht
          have d0 : wr.cell? ⟨g', j * 6, none⟩ = some (.int .i64 jk) := hcell 0 _ rfl
          have d1 : wr.cell? ⟨g', j * 6 + 1, none⟩ = some (.int .i64 jA) := hcell 1 _ rfl
          have d2 : wr.cell? ⟨g', j * 6 + 2, none⟩ = some (.int .i64 jn) := hcell 2 _ rfl
          have d3 : wr.cell? ⟨g', j * 6 + 3, none⟩ = some (.slice sa sl' sc') := hcell 3 _ rfl
          have d4 : wr.cell? ⟨g', j * 6 + 4, none⟩ = some (.slice ta jT.length tn) := hcell 4 _ rfl
          have d5 : wr.cell? ⟨g', j * 6 + 5, none⟩ = some (.bool jd) := hcell 5 _ rfl
          clear hcell
          by_cases hlv : m.live = false
          · unfold JnPost at key
            rw [hlv] at key
            have KEY := Lib.hid key
            have HLV := Lib.hid hlv
            clear key hlv
            go_wp2_with fail
            refine KEY.out.mono ?_
            rintro e w' ⟨s0, sl, sc, rfl, _, b, _⟩
            obtain ⟨x, hx⟩ : ∃ x, x = m.want := ⟨_, rfl⟩
            rw [← hx]
            clear hx
            unfold AA.V
            have z := b.size
            go_wp2
            refine ⟨⟨S2, n2, g2, j + 1, rfl, rfl, by go_num, by omega, ⟨⟨κ2, tv2, J2, HW.out.below (b.alloc b.size _), HK2.out, HJL.out, HJN.out⟩, HA2.out.kp.trans (Below.keeps (b.alloc b.size _)), HA2.out.n0, HA2.out.n1, HA2.out.k0, HA2.out.k1, HA2.out.t1⟩, ?_, hn2, HG.out⟩, by simp [intOf]; omega⟩
            rw [← HROW.out, row_drop _ _ _ _ hlt, if_pos]
            rw [HGo.out, HLV.out]
            rfl
          · have hlv' : m.live = true := by simpa using hlv
            unfold JnPost at key
            rw [hlv'] at key
            have KEY := Lib.hid key
            have HLV := Lib.hid hlv'
            clear key hlv hlv'
            cases jd with
            | true =>
              go_wp2_with fail
              refine KEY.out.mono ?_
              rintro e w' ⟨s0, sl, sc, rfl, _, b, _⟩
              obtain ⟨x, hx⟩ : ∃ x, x = m.want := ⟨_, rfl⟩
              rw [← hx]
              clear hx
              unfold AA.V
              have z := b.size
              have y2 := (b.cell (p := ⟨g', j * 6 + 5, none⟩) gl).trans d5
              have y1 := (b.cell (p := ⟨R, 1, none⟩) hRlt).trans hc2
              have hbl2 : g' < w'.heap.size := by omega
              have hRl2 : R < w'.heap.size := by omega
              go_wp2
              refine ⟨⟨S2, n2, g2, j + 1, rfl, rfl, by go_num, by omega, ⟨⟨κ2, tv2, J2, HW.out.below (b.alloc b.size _), HK2.out, HJL.out, HJN.out⟩, HA2.out.kp.trans (Below.keeps (b.alloc b.size _)), HA2.out.n0, HA2.out.n1, HA2.out.k0, HA2.out.k1, HA2.out.t1⟩, ?_, hn2, HG.out⟩, by simp [intOf]; omega⟩
              rw [← HROW.out, row_drop _ _ _ _ hlt, if_pos]
              rw [HGo.out, HLV.out]
              rfl
            | false =>
              have HGT := Lib.hid (show cpMac.goesAt S2 j = true by rw [HGo.out, HLV.out]; rfl)
              by_cases hmn : most ≤ n2
              · go_wp2_with fail
                refine KEY.out.mono ?_
                rintro e w' ⟨s0, sl, sc, rfl, _, b, _⟩
                obtain ⟨x, hx⟩ : ∃ x, x = m.want := ⟨_, rfl⟩
                rw [← hx]
                clear hx
                unfold AA.V
                have z := b.size
                have y2 := (b.cell (p := ⟨g', j * 6 + 5, none⟩) gl).trans d5
                have y1 := (b.cell (p := ⟨R, 1, none⟩) hRlt).trans hc2
                have hbl2 : g' < w'.heap.size := by omega
                have hRl2 : R < w'.heap.size := by omega
                go_wp2
                go_ret
                have hR : cpMac.robin most S = (S2, n2) := by
                  have hr := HROW.out
                  rw [row_drop _ _ _ _ hlt, if_neg (by rw [HGT.out]; nofun), if_pos hmn] at hr
                  rw [← HROB.out]
                  obtain ⟨f', rfl⟩ : ∃ f', f = f' + 1 := ⟨f - 1, by omega⟩
                  unfold Mac.rob
                  rw [← hr, if_neg (by simp)]
                rw [hR]
                exact ⟨rfl, κ2, tv2, J2, HW.out.below (b.alloc b.size _), HK2.out, fun j hj => by have := HJL.out j hj; omega, HJN.out, HA2.out.kp.trans (Below.keeps (b.alloc b.size _))⟩
              · have hmn' : (most ≤ n2) = False := by simp [hmn]
                go_wp2_with fail
                refine KEY.out.mono ?_
                rintro e w' ⟨s0, sl, sc, rfl, _, b, _⟩
                obtain ⟨x, hx⟩ : ∃ x, x = m.want := ⟨_, rfl⟩
                rw [← hx]
                clear hx
                unfold AA.V
                have z := b.size
                have y2 := (b.cell (p := ⟨g', j * 6 + 5, none⟩) gl).trans d5
                have y1 := (b.cell (p := ⟨R, 1, none⟩) hRlt).trans hc2
                have hbl2 : g' < w'.heap.size := by omega
                have hRl2 : R < w'.heap.size := by omega
                have HW' := Lib.hid (HW.out.below (b.alloc b.size (.cells #[.int .i64 x.k, .int .i64 x.a, .int .i64 x.n, .int .u64 x.v, .int .u64 x.x, .slice s0 sl sc] 47)))
                have KP' := Lib.hid (HA2.out.kp.trans (Below.keeps (b.alloc b.size (.cells #[.int .i64 x.k, .int .i64 x.a, .int .i64 x.n, .int .u64 x.v, .int .u64 x.x, .slice s0 sl sc] 47))))
                go_wp2_with fail
                refine (rPick_any HW'.out 0 j 0 (N + n2.toNat) (by omega) HJL.out (by omega) (by omega) (by omega)).mono ?_
                rintro e w7 ⟨p0, pl, pc, t0, tl, tc, rfl, _, _, κ', tv', J', hW', hk', hJ', hJn', kp'⟩
                have hpf := pick_facts cpMac S2 0 j 0
                have hpc := pick_clk cpMac S2 0 j 0
                have zz := KP'.out.size
                have PK := Lib.hid (show RRob w κ R bb (.slice (some ⟨g', 0, none⟩) len gc) N len S most w7 (cpMac.pick S2 0 j 0).1 (n2 + 1) from
                  ⟨⟨κ', tv', J', hW', fun i hi => by rw [hk' i (by omega)]; exact HK2.out i hi, fun j hj => by have := hJ' j hj; omega, hJn'.trans HJN.out⟩, KP'.out.then kp' (fun i hi h => by rw [← HK2.out i hi]; exact h), by omega, by omega, Int.le_trans hkk0 hpc.1, by have := hpc.2; omega, by have := hpf.1; omega⟩)
                clear hW' hk' kp' hpf hpc hJ' hJn'
                unfold evV
                go_wp2
                refine ⟨⟨_, n2 + 1, true, j + 1, rfl, rfl, by go_num, by omega, PK.out, ?_, by omega, fun _ => by omega⟩, by simp [intOf]; omega⟩
                rw [← HROW.out, row_drop _ _ _ _ hlt, if_neg (by rw [HGT.out]; nofun), if_neg (by omega)]
        · obtain rfl : j = len := by omega
          have hr : cpMac.row most (List.range S1.acts.length) S1 n false = (S2, n2, g2, false) := by
            rw [← HROW.out, List.drop_of_length_le (by simp)]
            rfl
          have HR := Lib.hid hr
          clear hr
          go_wp2
          obtain ⟨f', rfl⟩ : ∃ f', f = f' + 1 := ⟨f - 1, by omega⟩
          have hrb := HROB.out
          unfold Mac.rob at hrb
          rw [HR.out] at hrb
          cases g2 with
          | true =>
            have := HG.out (by trivial)
            rw [if_pos (by simp)] at hrb
            exact ⟨⟨S2, n2, true, f', rfl, rfl, HA2.out, fun _ => ⟨hrb, by omega, by omega⟩, (fun h => by cases h)⟩, by simp [intOf, bN]; omega⟩
          | false =>
            rw [if_neg (by simp)] at hrb
            exact ⟨⟨S2, n2, false, 0, rfl, rfl, HA2.out, (fun h => by cases h), fun _ => hrb⟩, by simp [intOf, bN]; omega⟩
set_option maxHeartbeats 1000000 in
theorem rRobin_none {w : World} {κ : Nat → Kd} {R bb : Nat} {jv tv : Value} {J : List JbS} {S : SW cpMac.σ} (h : RoIn w κ R bb jv tv J S) (most : Int) (N : Nat) (hl : ∀ j ∈ J, j.T.length ≤ N) (h0 : J.length = 0) :
    Calls Try.prog 13 #[.pointer (some ⟨R, 0, none⟩), .int .i64 most] w (RrPost w κ R bb jv N J.length (cpMac.robin most S)) := by
  rw [robin_none cpMac S most (h.al.trans h0)]
  have H := Lib.hid h
  have HL := Lib.hid hl
  obtain ⟨va, vc, rfl, _⟩ := h.jvSl
  have hc1 := h.cells.2.1
  obtain ⟨n0, hn0⟩ : ∃ n0, n0 = J.length := ⟨_, rfl⟩
  have HN := Lib.hid hn0
  rw [h0] at hc1
  clear h hl hn0 h0
  go_enter Try.func13, Try.ntmps13
  go_wp2_with fail
  go_loopw [5, 6] (fun nv gv wr => nv = .int .i64 0 ∧ (gv = .bool true ∨ gv = .bool false) ∧ wr = w) (fun _ gv _ => bN gv)
  case atStart => exact ⟨rfl, .inl rfl, rfl⟩
  case round =>
    obtain ⟨rfl, hg, rfl⟩ := hrel
    rcases hg with rfl | rfl
    · go_wp2_with fail
      refine wp_loop_rounds 1 ?_
      rw [rounds_succ]
      go_wp2
      exact ⟨⟨by trivial, by simp, by trivial⟩, by simp [bN]⟩
    · go_wp2
      go_ret
      exact ⟨rfl, κ, tv, J, H.out, fun _ _ => rfl, fun j hj => by have := HL.out j hj; omega, rfl, Keep.refl _ _⟩
theorem rRobin_any {w : World} {κ : Nat → Kd} {R bb : Nat} {jv tv : Value} {J : List JbS} {S : SW cpMac.σ} (h : RoIn w κ R bb jv tv J S) (most : Int) (hm : most ≤ 900) (N : Nat) (hN : N ≤ 90000) (hl : ∀ j ∈ J, j.T.length ≤ N) (hk0 : 0 ≤ S.clk) (hk1 : S.clk ≤ 1152921504606846976) (htr : S.tr.length ≤ 50000) (hl1 : J.length ≤ 1000000) :
    Calls Try.prog 13 #[.pointer (some ⟨R, 0, none⟩), .int .i64 most] w (RrPost w κ R bb jv N J.length (cpMac.robin most S)) := by
  by_cases h0 : J.length = 0
  · exact rRobin_none h most N hl h0
  · obtain ⟨g, cap, e, _⟩ := h.job (List.getElem?_eq_getElem (show 0 < J.length by omega))
    exact rRobin_row h most hm N hN hl hk0 hk1 htr g _ cap e rfl hl1
end Go.Proofs.Ytknahaaefmlcpaa
