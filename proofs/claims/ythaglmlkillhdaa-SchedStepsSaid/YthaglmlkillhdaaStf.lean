/- The walk of SchedSteps. Conditions: as the frame gives them. For every input SchedSteps returns true, and every argument reads behind the call as it read before. Conditions: none. -/
import Derived.Test.YthaglmlkillhdaaSr
import Derived.Test.YthaglmlkillhdaaRows
import Derived.Test.YthaglmlkillhdaaOj
import Derived.Test.YthaglmlkillhdaaOp
import Derived.ProofKit
import Derived.OpenShut
section
namespace Go.Proofs.Ythaglmlkillhdaa
set_option maxRecDepth 100000
open Go.RowKit
set_option linter.unusedVariables false
set_option linter.unusedSimpArgs false
theorem steps_big (a0 : Option Addr) (n0 c0 : Nat) (a1 : Option Addr) (n1 c1 : Nat) (w : World) (h : 6 < n0 ∨ 120 < n1) :
    Calls Try.prog 5 #[.slice a0 n0 c0, .slice a1 n1 c1] w fun e w' => e = .returned (.bool true) ∧ Below w.heap.size w w' := by
  by_cases h0 : (6 : Int) < (n0 : Int)
  · clear h
    go_enter Try.func5, Try.ntmps5
    go_wp2_with fail
    refine (fixed06_any _).mono ?_
    rintro e w1 ⟨rfl, b1⟩
    go_wp2
    go_ret
    exact ⟨rfl, b1⟩
  · have h1 : (120 : Int) < (n1 : Int) := by omega
    clear h
    go_enter Try.func5, Try.ntmps5
    go_wp2_with fail
    refine (fixed06_any _).mono ?_
    rintro e w1 ⟨rfl, b1⟩
    go_wp2
    go_ret
    exact ⟨rfl, b1⟩
set_option maxHeartbeats 2000000 in
theorem steps_said (v0 : Value) (Js : List JobV) (v1 : Value) (Ps : List PickV) (w : World) (r0 : RdR w v0 4 (Js.map JobV.cs)) (j0 : ∀ j ∈ Js, JobV.Ok w j) (r1 : RdR w v1 3 (Ps.map PickV.cs)) (p1 : ∀ q ∈ Ps, PickV.Ok q) :
    Calls Try.prog 5 #[v0, v1] w fun e w' => e = .returned (.bool true) ∧ Below w.heap.size w w' := by
  obtain ⟨a0, c0, rfl⟩ := r0.sl
  obtain ⟨a1, c1, rfl⟩ := r1.sl
  rw [List.length_map] at r0 r1 ⊢
  rw [List.length_map]
  by_cases hbig : 6 < Js.length ∨ 120 < Ps.length
  · exact steps_big _ _ _ _ _ _ w hbig
  have hg0 : ¬ (6 : Int) < (Js.length : Int) := by omega
  have hg1 : ¬ (120 : Int) < (Ps.length : Int) := by omega
  have R0 := Lib.hid r0
  have R1 := Lib.hid r1
  have J0 := Lib.hid j0
  have P1 := Lib.hid p1
  obtain ⟨n0, hn0⟩ : ∃ n, n = Js.length := ⟨_, rfl⟩
  obtain ⟨n1, hn1⟩ : ∃ n, n = Ps.length := ⟨_, rfl⟩
  rw [← hn0] at hg0 R0
  rw [← hn1] at hg1 R1
  rw [← hn0, ← hn1]
  have HN0 := Lib.hid hn0
  have HN1 := Lib.hid hn1
  have hle0 : n0 ≤ 6 := by omega
  have hle1 : n1 ≤ 120 := by omega
  clear r0 r1 j0 p1 hn0 hn1 hbig
  go_enter Try.func5, Try.ntmps5
  go_wp2_with fail
  refine (fixed06_any _).mono ?_
  rintro e w1 ⟨rfl, b1⟩
  have BW1 := Lib.hid b1
  clear b1
  go_wp2_with fail
  go_loopw [31] (fun i wr => ∃ k : Nat, k ≤ n0 ∧ i = .int .i64 k ∧ (∀ j J, j < k → Js[j]? = some J → J.b.length ≤ 60) ∧ Below w.heap.size w wr) (fun i _ => n0 - (intOf i).toNat)
  case atStart => exact ⟨0, by omega, rfl, (fun j J h => by omega), BW1.out⟩
  case round =>
    obtain ⟨k, hk, rfl, hsm, hB⟩ := hrel
    have HSM := Lib.hid hsm
    have HB := Lib.hid hB
    have zB := hB.size
    by_cases hlt : k < n0
    · obtain ⟨g, off, cap, e, _, _, hcell⟩ := R0.out.row (by rw [List.length_map]; have := HN0.out; omega)
      obtain ⟨J, hJk⟩ : ∃ J, Js[k]? = some J := ⟨_, List.getElem?_eq_getElem (by rw [← HN0.out]; exact hlt)⟩
      have hcs := hcell k J.cs (by rw [List.getElem?_map, hJk]; rfl)
      have hcw : ∀ j u, J.cs[j]? = some u → wr.cell? ⟨g, off + k * 4 + j, none⟩ = some u := fun j u hj => (hB.cell (p := ⟨g, off + k * 4 + j, none⟩) (World.block_lt_of_cell? w _ (hcs j u hj))).trans (hcs j u hj)
      obtain ⟨sa, sl, sc, hs⟩ := (J0.out J (List.mem_of_getElem? hJk)).s
      have hsl := rd_len (hs ▸ (J0.out J (List.mem_of_getElem? hJk)).r)
      obtain ⟨jk, ja, jn, js, jb⟩ := J
      dsimp only at hs hsl
      subst hs
      have d0 : wr.cell? ⟨g, off + k * 4, none⟩ = some (.int .u8 jk) := hcw 0 _ rfl
      have d1 : wr.cell? ⟨g, off + k * 4 + 1, none⟩ = some (.int .u16 ja) := hcw 1 _ rfl
      have d2 : wr.cell? ⟨g, off + k * 4 + 2, none⟩ = some (.int .u16 jn) := hcw 2 _ rfl
      have d3 : wr.cell? ⟨g, off + k * 4 + 3, none⟩ = some (.slice sa sl sc) := hcw 3 _ rfl
      have hgl : g < wr.heap.size := World.block_lt_of_cell? _ _ d0
      have ea : a0 = some ⟨g, off, none⟩ := by cases e; rfl
      subst ea
      have HSL := Lib.hid hsl
      have HJK := Lib.hid hJk
      clear e hcell hcs hcw hsm hB hsl hJk
      by_cases hb : (60 : Int) < (sl : Int)
      · go_wp2
        go_ret
        exact ⟨rfl, HB.out.alloc zB _⟩
      · go_wp2
        refine ⟨⟨k + 1, by omega, by go_num, ?_, HB.out.alloc zB _⟩, by simp [intOf]; omega⟩
        intro j J' hj hJ'
        by_cases hjk : j = k
        · subst hjk
          rw [HJK.out] at hJ'
          obtain rfl := Option.some.inj hJ'
          have := HSL.out
          dsimp only
          omega
        · exact HSM.out j J' (by omega) hJ'
    · obtain rfl : k = n0 := by omega
      have hb60 : ∀ j ∈ Js, j.b.length ≤ 60 := by
        intro j hj
        obtain ⟨i, hi, rfl⟩ := List.getElem_of_mem hj
        exact hsm i _ (by rw [HN0.out]; exact hi) (List.getElem?_eq_getElem hi)
      have HB60 := Lib.hid hb60
      clear hsm hB hb60 hlt
      go_wp2_with fail
      refine (mNew_lit6 256 32 _ (by decide) (by decide) (by decide)).mono ?_
      rintro e w2 ⟨p, c, rfl, hb2, hp, hc, b2⟩
      have HB2 := Lib.hid (show Buf w2 p c 0 (List.replicate 256 0) from hb2)
      have BW2 := Lib.hid (HB.out.trans (b2.mono zB))
      have z2 := b2.size
      clear hb2 b2
      go_wp2_with fail
      refine (made06_any (.slice a0 k c0) Js _ (R0.out.below BW2.out) (fun j hj => (J0.out j hj).below BW2.out) HB60.out (by have := HN0.out; omega)).mono ?_
      rintro e w3 ⟨ov, jv, κ, mv, jc, rfl, hM⟩
      obtain ⟨oa, ol, oc, rfl⟩ := own_isSl hM.oo
      obtain ⟨ra, rl, rc, rfl⟩ := own_isSl hM.jo
      have HM := Lib.hid hM
      have BW3 := Lib.hid (BW2.out.trans (hM.bel.mono BW2.out.size))
      have z3 := hM.bel.size
      clear hM
      go_wp2_with fail
      refine (new06 HM.out HB2.out (by have := HN0.out; omega)).mono ?_
      rintro e w4 ⟨W, κ4, av, ab, rfl, hW, hk4, hWs, b4⟩
      have HW := Lib.hid hW
      have BW4 := Lib.hid (BW3.out.trans (b4.mono BW3.out.size))
      have NK4 := Lib.hid (show ∀ i, κ4 i ≠ .no → w.heap.size ≤ i from new_nk HM.out (by omega) (by omega) (by omega) hk4)
      have z4 := b4.size
      clear hW b4 hk4
      have PK0 := Lib.hid (show PkAt w w4 W p c av ab 0 κ4 nilSl (s0J (List.replicate 256 0) Js) from ⟨HW.out, NK4.out, BW4.out, Int.le_refl _, Int.le_refl _, Nat.le_refl _, Int.le_refl _, Int.le_refl _⟩)
      go_wp2_with fail
      go_loopw [54] (fun i wr => ∃ (k : Nat) (κr : Nat → Kd) (tvr : Value) (Sr : SW CpM), k ≤ n1 ∧ i = .int .i64 k ∧ PkAt w wr W p c av ab k κr tvr Sr) (fun i _ => n1 - (intOf i).toNat)
      case atStart => exact ⟨0, κ4, nilSl, _, by omega, rfl, PK0.out⟩
      case round =>
        obtain ⟨k1, κr, tvr, Sr, hk1, rfl, hP⟩ := hrel
        have HP := Lib.hid hP
        by_cases hlt1 : k1 < n1
        · obtain ⟨g, off, cap, e, _, _, hcell⟩ := R1.out.row (by rw [List.length_map]; have := HN1.out; omega)
          obtain ⟨P, hPk⟩ : ∃ P, Ps[k1]? = some P := ⟨_, List.getElem?_eq_getElem (by rw [← HN1.out]; exact hlt1)⟩
          have hcs := hcell k1 P.cs (by rw [List.getElem?_map, hPk]; rfl)
          have hcw : ∀ j u, P.cs[j]? = some u → wr.cell? ⟨g, off + k1 * 3 + j, none⟩ = some u := fun j u hj => (hP.bel.cell (p := ⟨g, off + k1 * 3 + j, none⟩) (World.block_lt_of_cell? w _ (hcs j u hj))).trans (hcs j u hj)
          obtain ⟨pk, pa, pn⟩ := P
          have d0 : wr.cell? ⟨g, off + k1 * 3, none⟩ = some (.int .i64 pk) := hcw 0 _ rfl
          have d1 : wr.cell? ⟨g, off + k1 * 3 + 1, none⟩ = some (.int .i64 pa) := hcw 1 _ rfl
          have d2 : wr.cell? ⟨g, off + k1 * 3 + 2, none⟩ = some (.int .i64 pn) := hcw 2 _ rfl
          have hgl : g < wr.heap.size := World.block_lt_of_cell? _ _ d0
          have ea : a1 = some ⟨g, off, none⟩ := by cases e; rfl
          subst ea
          have b5 : Below wr.heap.size wr (wr.alloc (.cells #[.int .i64 pk, .int .i64 pa, .int .i64 pn] 63)) := (Below.refl _ _).alloc (Nat.le_refl _) _
          have HP5 := Lib.hid (hP.below b5)
          have HCN := Lib.hid (pick_cnt cpMac Sr pk pa pn)
          have q0 := hP.c0
          have q1 := hP.c1
          have q2 := hP.t
          have q3 := hP.k0
          have q4 := hP.k1
          clear e hcell hcs hcw hP hPk b5
          go_wp2_with fail
          refine (mCount_any p c Sr.cnt Sr.bs _ HP5.out.wo.buf).mono ?_
          rintro e w6 ⟨rfl, rfl⟩
          go_wp2_with fail
          refine (wDead_any HP5.out.wo pa).mono ?_
          rintro e w6 ⟨rfl, rfl⟩
          obtain ⟨D, hD⟩ : ∃ D, D = @SW.dead cpFam.M.σ Sr pa := ⟨_, rfl⟩
          rw [← hD]
          have HD := Lib.hid hD
          clear hD
          go_wp2_with fail
          refine (wPick_any cpUntimed HP5.out.wo pk pa pn q0 (by omega) q3 (by omega) (by omega)).mono ?_
          rintro e w7 ⟨s0, sl, sc, t0, tl, tc, rfl, _, _, κ7, tv7, h7, k7, _, kp7⟩
          obtain ⟨E7, hE7⟩ : ∃ E, E = (cpFam.M.pick Sr pk pa pn).2.1 := ⟨_, rfl⟩
          obtain ⟨f7, hf7⟩ : ∃ f, f = (cpFam.M.pick Sr pk pa pn).2.2 := ⟨_, rfl⟩
          obtain ⟨S7, hS7⟩ : ∃ S, S = (cpFam.M.pick Sr pk pa pn).1 := ⟨_, rfl⟩
          rw [← hE7, ← hf7]
          have HF7 := Lib.hid hf7
          clear hE7 hf7 hS7 S7
          have hP7 := HP5.out.pick pk pa pn h7 k7 kp7
          have HP7 := Lib.hid hP7
          unfold evV
          go_wp2_with fail
          refine (mCount_any p c _ _ _ (HP7.out.below ((Below.refl _ _).alloc (Nat.le_refl _) _)).wo.buf).mono ?_
          rintro e w8 ⟨rfl, rfl⟩
          have HP8 := Lib.hid (show ∀ o, PkAt w (w7.alloc o) W p c av ab (k1 + 1) κ7 tv7 _ from fun o => HP7.out.below (Below.alloc (Below.refl w7.heap.size w7) (Nat.le_refl _) o))
          have y0 : w7.cell? ⟨wr.heap.size, 0, none⟩ = some (.int .i64 pk) := by
            have hno : ¬ κr wr.heap.size ≠ .no := fun h => by have := HP.out.wo.all _ h; omega
            rw [kp7.cell 0 (by rw [World.size_alloc]; exact Nat.lt_succ_self _) hno]
            exact World.cell?_alloc_new _ _ _ 0
          have y1 : wr.heap.size < w7.heap.size := World.block_lt_of_cell? _ _ y0
          rcases HCN.out with e | ⟨e, rfl, hd, hf⟩
          · have e'' : (cpMac.pick Sr pk pa pn).1.cnt = Sr.cnt := e
            clear e
            rw [e'']
            go_wp2
            exact ⟨⟨k1 + 1, κ7, tv7, _, by omega, by go_num, HP8.out _⟩, by simp [intOf]; omega⟩
          · have e' : (cpMac.pick Sr 0 pa pn).1.cnt = Sr.cnt + 1 := e
            obtain rfl : f7 = 0 := HF7.out.trans hf
            obtain rfl : D = false := HD.out.trans hd
            clear e hf
            rw [e']
            go_wp2
            exact ⟨⟨k1 + 1, κ7, tv7, _, by omega, by go_num, HP8.out _⟩, by simp [intOf]; omega⟩
        · obtain rfl : k1 = n1 := by omega
          clear hP
          go_wp2
          go_ret
          exact ⟨rfl, HP.out.bel⟩
end Go.Proofs.Ythaglmlkillhdaa
end
section
namespace Go.Proofs.Ythaglmlkillhdaa.schedSteps
open Go.ChangeShapes Go.WideShapes Go.ChangeAt Go.RowKit
set_option linter.unusedVariables false
set_option maxRecDepth 100000
theorem own : ownKnob Try.prog.godebug = none := by kernel_rfl
theorem laidOut : laidOutB Try.prog = true := by kernel_rfl
theorem contract (H : Type) (enc : TypeId × Value → H) (W : World) (base : Nat) (args : Array Value) (ds gs : List (DataW H)) (before : List MemPlace)
    (hval : ∀ (j : Nat) t v, Try.f5.params[j]? = some t → args[j]? = some v → Value.okWide Try.prog W .any base t v)
    (hW : DataW.Whole enc Try.prog Try.f5.params.toList Rows.schedStepsSpec.vars false W args.toList ds gs before) :
    Calls Try.prog 5 args W fun e W' => ∃ v, e = .returned v ∧ Rows.schedStepsSpec.post enc Try.prog Try.f5 false true false false W args v W' := by
  have hW' := hW
  obtain ⟨p, q, hA0, hV, rfl, hfz, hnd⟩ := hW
  have hA : DataW.TrodAll enc Try.prog W 0 (fun _ => true) true Try.f5.params.toList args.toList ds p := hA0
  rw [Try.params5] at hA hval
  obtain ⟨v0, vs0, d0, ds0, p0, q0, hargs, rfl, rfl, h0, r0'⟩ := trodAll_cons hA
  obtain ⟨v1, vs1, d1, ds1, p1, q1, rfl, rfl, rfl, h1, r1'⟩ := trodAll_cons r0'
  obtain ⟨rfl, rfl, rfl⟩ := trodAll_nil r1'
  obtain rfl : args = #[v0, v1] := by cases args; simp_all
  obtain ⟨rfl, rfl⟩ := trodVars_none hV
  have k0 := h0
  have lt0 : ∀ x ∈ p0, x.block < W.heap.size := by obtain ⟨m, hm⟩ := k0; exact DataW.trod_lt m _ _ _ hm
  have k1 := h1
  have lt1 : ∀ x ∈ p1, x.block < W.heap.size := by obtain ⟨m, hm⟩ := k1; exact DataW.trod_lt m _ _ _ hm
  obtain ⟨J0, rd0, jo0⟩ := open_jobs (hval 0 49 v0 rfl rfl) h0
  obtain ⟨P1, rd1, po1⟩ := open_picks (hval 1 50 v1 rfl rfl) h1
  clear hA0
  refine (steps_said v0 J0 v1 P1 W rd0 jo0 rd1 po1).mono fun e W' ⟨he, bel⟩ => ?_
  subst he
  exact ⟨_, rfl, _, _, _, [], _, [], hW', trodAll_mk1 (shut_bool Try.underlying4 _), (trodAll_cons_mk (Below.trod laidOut (by kernel_rfl) (of_decide_eq_true (by kernel_rfl)) k0 bel lt0) (trodAll_cons_mk (Below.trod laidOut (by kernel_rfl) (of_decide_eq_true (by kernel_rfl)) k1 bel lt1) trodAll_mk0)), rfl, bel.frame _, fun h => by cases h⟩
theorem lifted (os : Os) (started : os.Started) (H : Type) (enc : TypeId × Value → H) :
    ReturnsInHanded {} Try.checked os 5 .any (Rows.schedStepsSpec.pre6 enc Try.prog Try.f5 Rows.schedStepsRow.domain false) (Rows.schedStepsSpec.post enc Try.prog Try.f5 false true false false) := by
  refine returnsInHanded_of_change (C := Try.checked) own started (by kernel_rfl) Try.func5
    (ChangeSpec.witness6 (enc := enc) (C := Try.checked) false ⟨#[], #[.slice none 0 0, .slice none 0 0], []⟩ 8 (by kernel_rfl) (by kernel_rfl) (by kernel_rfl) (by kernel_rfl)) ?_
  intro W base args ds gs before hval hW _ _
  exact contract H enc W base args ds gs before hval hW
theorem proved : Rows.SchedStepsSaid :=
  OpenClaim.holds_of_wide 5 Try.f5 rfl rfl rfl rfl rfl rfl rfl ⟨rfl, rfl, rfl, rfl, rfl⟩ rfl rfl rfl rfl rfl (by kernel_rfl) Try.func5 (by kernel_rfl)
    (of_decide_eq_true (by kernel_rfl)) (by unfold Func.isWrapper; first | (rw [if_pos (by decide +kernel)]; kernel_rfl) | (rw [if_neg (by decide +kernel)]; exact ⟨rfl, rfl⟩))
    (fun os started H enc _ => lifted os started H enc)
#print axioms proved
end Go.Proofs.Ythaglmlkillhdaa.schedSteps
end
