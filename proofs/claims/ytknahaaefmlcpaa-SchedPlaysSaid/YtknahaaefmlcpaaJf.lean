/- The walk of SchedPlays. Conditions: as the frame gives them. -/
import Derived.Test.YtknahaaefmlcpaaJe
import Derived.Test.YtknahaaefmlcpaaOj
import Derived.Deep.CutRange
import Derived.Deep.RegionHeld3
namespace Go.Proofs.Ytknahaaefmlcpaa
set_option maxRecDepth 100000
open Go.RowKit
set_option linter.unusedVariables false
set_option linter.unusedSimpArgs false
/-- What is asked of the world from here on may become more. -/
theorem wpAnyH_more {P : Program} {ops : Array Oper} {Q : Exit → Act → World → Prop} {md : Region.Mode} {S S' : World → Prop} (hS : ∀ w, S' w → S w) : ∀ (fuel : Nat) (listed : Array Bool) (a : Act) (w : World), wpAnyH P md ops Q S' fuel listed a w → wpAnyH P md ops Q S fuel listed a w
  | 0, _, _, _, h => h
  | fuel + 1, _, _, _, h => ⟨h.1, fun i hi => wpOp_mono (fun a' w' h' => ⟨hS _ h'.1, wpAnyH_more hS fuel _ a' w' h'.2⟩) (h.2 i hi)⟩
theorem pl_start {w w2 w3 wq w4 wx : World} {κ κ4 : Nat → Kd} {ov jv av : Value} {mv : Nat → Value} {Js : List JobV} {jc : List (List Value)} {p c W R bb : Nat} {ab : Nat → Nat} (hM : MadeTo w2 w3 κ ov jv mv Js jc Js.length) (hJ : ∀ x ∈ Js, JobV.Ok w2 x) (hb : ∀ x ∈ Js, x.b.length ≤ 60)
    (bw3 : Below w.heap.size w w3) (hww : w.heap.size ≤ w2.heap.size) (hp : w.heap.size ≤ p ∧ p < w2.heap.size) (hc : w.heap.size ≤ c ∧ c < w2.heap.size) (bq : Below w3.heap.size w3 wq) (h4 : WoIn cpFam w4 κ4 W p c av nilSl ab (s0J (List.replicate 256 0) Js)) (hk4 : ∀ i, i < wq.heap.size → κ4 i = kdB κ p c i) (b4 : Below wq.heap.size wq w4) (hW : wq.heap.size ≤ W) (b5 : Below w4.heap.size w4 wx)
    (hR : (w3.heap.size ≤ R ∧ R < wq.heap.size) ∨ w4.heap.size ≤ R) (hB : (w3.heap.size ≤ bb ∧ bb < wq.heap.size) ∨ w4.heap.size ≤ bb) (hne : R ≠ bb) (hRb : Blk wx R [.slice (some ⟨bb, 0, none⟩) 256 256, jv, .int .i64 0, .slice none 0 0]) (hBb : Blk wx bb ((List.replicate 256 (0 : Int)).map (Value.int .u8))) :
    ∃ κ2 J, Pl2 w wx W p c av ab R bb jv 0 0 Js.length κ4 nilSl (s0J (List.replicate 256 0) Js) κ2 (.slice none 0 0) J (s0J (List.replicate 256 0) Js) := by
  have z3 := hM.bel.size
  have zq := bq.size
  have z4 := b4.size
  have z5 := b5.size
  have bx : Below w3.heap.size w3 wx := bq.trans ((b4.mono zq).trans (b5.mono (by omega)))
  have bw : Below w.heap.size w wx := bw3.trans (bx.mono (by omega))
  obtain ⟨J, κ2, h1, h2, h3, h5⟩ := ro_made hM hJ hb bx R bb (List.replicate 256 0) 0 (by omega) (by omega) hne hRb hBb (zeros_is _) (by decide)
  have kno : ∀ i, w3.heap.size ≤ i → κ i = .no := by
    intro i hi
    rcases hM.kd i with h | ⟨_, _, h⟩
    · exact h
    · omega
  have k4 : ∀ i, w2.heap.size ≤ i → i < wq.heap.size → κ i = .no → κ4 i = .no := by
    intro i h6 h7 h8
    rw [hk4 i h7]
    unfold kdB
    rw [if_neg (by omega)]
    exact h8
  refine ⟨κ2, J, ⟨⟨h4.below b5, ?_, bw, Int.le_refl _, Int.le_refl _, Nat.le_refl _, Int.le_refl _, Int.le_refl _⟩, h1, fun i hi => ?_, fun i hi => by have := (h5 i hi).1; omega, h2, h3⟩⟩
  · exact new_nk (hM.below bq) hww hp.1 hc.1 hk4
  · obtain ⟨h6, ⟨h7, h8⟩ | rfl | rfl⟩ := h5 i hi
    · exact k4 i h6 (by omega) h8
    · rcases hR with ⟨h9, h10⟩ | h9
      · exact k4 _ (by omega) h10 (kno _ h9)
      · exact no_big h4 h9
    · rcases hB with ⟨h9, h10⟩ | h9
      · exact k4 _ (by omega) h10 (kno _ h9)
      · exact no_big h4 h9
theorem few_start {S : SW CpM} {k m : Int} (h : FewS 0 120 S k) : FewS S.tr.length m S 0 := ⟨by omega, Int.le_refl _, by omega, h.ev, h.fine, h.isb⟩
theorem few_zero {w : World} {Js : List JobV} (hJ : ∀ x ∈ Js, JobV.Ok w x) (hb : ∀ x ∈ Js, x.b.length ≤ 60) : FewS 0 120 (s0J (List.replicate 256 0) Js) 0 := by
  refine ⟨Int.le_refl _, Int.le_refl _, by omega, (fun e he => (List.not_mem_nil he).elim), (fun a ha s hs => ?_), zeros_is _⟩
  obtain ⟨j, hj, rfl⟩ := List.mem_map.1 ha
  obtain rfl := Option.some.inj hs
  exact JobV.mac_fine (hJ j hj) (hb j hj)
theorem pl_robin {w wr wA wB : World} {W p c : Nat} {av : Value} {ab : Nat → Nat} {R bb : Nat} {jv : Value} {k N n0 : Nat} {κ κA : Nat → Kd} {tv tvA : Value} {SP SR SF SF' : SW CpM} {κ2 κB : Nat → Kd} {tv2 tvB : Value} {J JB : List JbS} (h : Pl2 w wr W p c av ab R bb jv k N n0 κ tv SP κ2 tv2 J SR)
    (hA : WoIn cpFam wA κA W p c av tvA ab SF) (kA : ∀ i, i < wr.heap.size → κA i = κ i) (kpA : Keep (fun i => κ i ≠ .no) wr wA) (hB : RoIn wB κB R bb jv tvB JB SF') (kB : ∀ i, i < wA.heap.size → κB i = κ2 i) (kpB : Keep (fun i => κ2 i ≠ .no) wA wB) :
    WoIn cpFam wB κA W p c av tvA ab SF ∧ RoIn wB κB R bb jv tvB JB SF' ∧ Below w.heap.size w wB := by
  have z0 := h.pk.bel.size
  have zA := kpA.size
  refine ⟨hA.keep kpB (fun i hi h2 => ?_), hB, ?_⟩
  · have h3 := h.ro.all i h2
    exact hi ((kA i h3).trans (h.dj i h2))
  · refine (h.pk.bel.trans (kpA.below z0 (fun i hi h2 => ?_))).trans (kpB.below (by omega) (fun i hi h2 => ?_))
    · have := h.pk.nk i h2
      omega
    · have := h.lo i h2
      omega
theorem ro_dead {w : World} {κ : Nat → Kd} {R bb : Nat} {jv tv : Value} {J : List JbS} {S : SW CpM} (h : RoIn w κ R bb jv tv J S) {k : Nat} {j : JbS} (hj : J[k]? = some j) : S.dead (k : Int) = j.d := by
  unfold SW.dead SW.at
  rw [if_neg (by omega), Int.toNat_natCast, h.at_ hj]
  rfl
theorem ended_at (M : Mac) (S : SW M.σ) (k : Nat) (s : M.σ) (d : Bool) (h : S.acts[k]? = some ⟨some s, d⟩) : M.ended S (k : Int) = !M.live s := by
  unfold Mac.ended SW.at
  rw [if_neg (by omega), Int.toNat_natCast, h]
  rfl
theorem ro_ended {w : World} {κ : Nat → Kd} {R bb : Nat} {jv tv : Value} {J : List JbS} {S : SW CpM} (h : RoIn w κ R bb jv tv J S) {k : Nat} {j : JbS} (hj : J[k]? = some j) : cpMac.ended S (k : Int) = !j.mac.live := ended_at cpMac S k j.mac j.d (h.at_ hj)
/-- A make of 256 bytes, at a step. -/
theorem wp_make256 {w : World} {o : Oper} {a : Act} {K : Act → World → Prop} {Q : Exit → Act → World → Prop} (l c : Operand) (hop : o.op = Op.makeSlice 26 l c) (hl : a.eval l = .int .i64 256) (hc : a.eval c = .int .i64 256)
    (h : K (a.put o.dst (.slice (some ⟨w.heap.size, 0, none⟩) 256 256)) (w.alloc (.cells (madeCells #[.int .u8 0] 256) 5))) : o.wp Try.prog a w K Q := by
  obtain ⟨i0, hi, hz0, hz1, hz2⟩ := info_parts u8info
  have hrun := run_make_row (P := Try.prog) 26 5 i0 (.int .u8 0) Try.underlying26 hi hz0 hz1 rfl .i64 .i64 256 (by rw [hz2]; decide) (by decide) w
  unfold Oper.wp execOp
  have hrun' : (Instr.makeSlice 26 (.int .i64 256) (.int .i64 256)).run Try.prog w = _ := hrun
  simp only [hop, hl, hc, hrun']
  exact h
theorem made256 (w : World) : Blk (w.alloc (.cells (madeCells #[.int .u8 0] 256) 5)) w.heap.size ((List.replicate 256 (0 : Int)).map (Value.int .u8)) := by
  rw [rep_cellsT]
  exact Blk.made w _ _
theorem plays_big (a0 : Option Addr) (n0 c0 : Nat) (a1 : Option Addr) (n1 c1 : Nat) (m : Int) (w : World) (h : 6 < n0 ∨ 120 < n1) :
    Calls Try.prog 3 #[.slice a0 n0 c0, .slice a1 n1 c1, .int .u8 m] w fun e w' => e = .returned (.bool true) ∧ Below w.heap.size w w' := by
  by_cases h0 : (6 : Int) < (n0 : Int)
  · clear h
    go_enter Try.func3, Try.ntmps3
    go_wp2_with fail
    refine (fixed06_any _).mono ?_
    rintro e w1 ⟨rfl, b1⟩
    go_wp2
    go_ret
    exact ⟨rfl, b1⟩
  · have h1 : (120 : Int) < (n1 : Int) := by omega
    clear h
    go_enter Try.func3, Try.ntmps3
    go_wp2_with fail
    refine (fixed06_any _).mono ?_
    rintro e w1 ⟨rfl, b1⟩
    go_wp2
    go_ret
    exact ⟨rfl, b1⟩
set_option maxHeartbeats 2000000 in
theorem plays_said (v0 : Value) (Js : List JobV) (v1 : Value) (Ps : List PickV) (m : Int) (hm : 0 ≤ m ∧ m ≤ 255) (w : World) (r0 : RdR w v0 4 (Js.map JobV.cs)) (j0 : ∀ j ∈ Js, JobV.Ok w j) (r1 : RdR w v1 3 (Ps.map PickV.cs)) (p1 : ∀ q ∈ Ps, PickV.Ok q) :
    Calls Try.prog 3 #[v0, v1, .int .u8 m] w fun e w' => e = .returned (.bool true) ∧ Below w.heap.size w w' := by
  obtain ⟨a0, c0, rfl⟩ := r0.sl
  obtain ⟨a1, c1, rfl⟩ := r1.sl
  rw [List.length_map] at r0 r1 ⊢
  rw [List.length_map]
  by_cases hbig : 6 < Js.length ∨ 120 < Ps.length
  · exact plays_big _ _ _ _ _ _ m w hbig
  have hg0 : ¬ (6 : Int) < (Js.length : Int) := by omega
  have hg1 : ¬ (120 : Int) < (Ps.length : Int) := by omega
  have R0 := Lib.hid r0
  have R1 := Lib.hid r1
  have J0 := Lib.hid j0
  have P1 := Lib.hid p1
  obtain ⟨n0, hn0⟩ : ∃ n, n = Js.length := ⟨_, rfl⟩
  obtain ⟨n1, hn1⟩ : ∃ n, n = Ps.length := ⟨_, rfl⟩
  rw [← hn0] at hg0 R0
  rw [← hn1] at hg1 R1
  rw [← hn0, ← hn1]
  obtain ⟨hm0, hm1⟩ := hm
  have HN0 := Lib.hid hn0
  have HN1 := Lib.hid hn1
  have hle0 : n0 ≤ 6 := by omega
  have hle1 : n1 ≤ 120 := by omega
  clear r0 r1 j0 p1 hn0 hn1 hbig
  go_enter Try.func3, Try.ntmps3
  go_wp2_with fail
  refine (fixed06_any _).mono ?_
  rintro e w1 ⟨rfl, b1⟩
  have BW1 := Lib.hid b1
  clear b1
  go_wp2_with fail
  go_loopw [37] (fun i wr => ∃ k : Nat, k ≤ n0 ∧ i = .int .i64 k ∧ (∀ j J, j < k → Js[j]? = some J → J.b.length ≤ 60) ∧ Below w.heap.size w wr) (fun i _ => n0 - (intOf i).toNat)
  case atStart => exact ⟨0, by omega, rfl, (fun j J h => by omega), BW1.out⟩
  case round =>
    obtain ⟨k, hk, rfl, hsm, hB⟩ := hrel
    have HSM := Lib.hid hsm
    have HB := Lib.hid hB
    have zB := hB.size
    by_cases hlt : k < n0
    · obtain ⟨g, off, cap, e, _, _, hcell⟩ := R0.out.row (by rw [List.length_map]; have := HN0.out; omega)
      obtain ⟨J, hJk⟩ : ∃ J, Js[k]? = some J := ⟨_, List.getElem?_eq_getElem (by rw [← HN0.out]; exact hlt)⟩
      have hcs := hcell k J.cs (by rw [List.getElem?_map, hJk]; rfl)
      have hcw : ∀ j u, J.cs[j]? = some u → wr.cell? ⟨g, off + k * 4 + j, none⟩ = some u := fun j u hj => (hB.cell (p := ⟨g, off + k * 4 + j, none⟩) (World.block_lt_of_cell? w _ (hcs j u hj))).trans (hcs j u hj)
      obtain ⟨sa, sl, sc, hs⟩ := (J0.out J (List.mem_of_getElem? hJk)).s
      have hsl := rd_len (hs ▸ (J0.out J (List.mem_of_getElem? hJk)).r)
      obtain ⟨jk, ja, jn, js, jb⟩ := J
      dsimp only at hs hsl
      subst hs
      have d0 : wr.cell? ⟨g, off + k * 4, none⟩ = some (.int .u8 jk) := hcw 0 _ rfl
      have d1 : wr.cell? ⟨g, off + k * 4 + 1, none⟩ = some (.int .u16 ja) := hcw 1 _ rfl
      have d2 : wr.cell? ⟨g, off + k * 4 + 2, none⟩ = some (.int .u16 jn) := hcw 2 _ rfl
      have d3 : wr.cell? ⟨g, off + k * 4 + 3, none⟩ = some (.slice sa sl sc) := hcw 3 _ rfl
      have hgl : g < wr.heap.size := World.block_lt_of_cell? _ _ d0
      have ea : a0 = some ⟨g, off, none⟩ := by cases e; rfl
      subst ea
      have HSL := Lib.hid hsl
      have HJK := Lib.hid hJk
      clear e hcell hcs hcw hsm hB hsl hJk
      by_cases hb : (60 : Int) < (sl : Int)
      · go_wp2
        go_ret
        exact ⟨rfl, HB.out.alloc zB _⟩
      · go_wp2
        refine ⟨⟨k + 1, by omega, by go_num, ?_, HB.out.alloc zB _⟩, by simp [intOf]; omega⟩
        intro j J' hj hJ'
        by_cases hjk : j = k
        · subst hjk
          rw [HJK.out] at hJ'
          obtain rfl := Option.some.inj hJ'
          have := HSL.out
          dsimp only
          omega
        · exact HSM.out j J' (by omega) hJ'
    · obtain rfl : k = n0 := by omega
      have hb60 : ∀ j ∈ Js, j.b.length ≤ 60 := by
        intro j hj
        obtain ⟨i, hi, rfl⟩ := List.getElem_of_mem hj
        exact hsm i _ (by rw [HN0.out]; exact hi) (List.getElem?_eq_getElem hi)
      have HB60 := Lib.hid hb60
      clear hsm hB hb60 hlt
      go_wp2_with fail
      refine (mNew_lit6 256 32 _ (by decide) (by decide) (by decide)).mono ?_
      rintro e w2 ⟨p, c, rfl, hb2, hp, hc, b2⟩
      have HB2 := Lib.hid (show Buf w2 p c 0 (List.replicate 256 0) from hb2)
      have BW2 := Lib.hid (HB.out.trans (b2.mono zB))
      have z2 := b2.size
      clear hb2 b2
      go_wp2_with fail
      refine (made06_any (.slice a0 k c0) Js _ (R0.out.below BW2.out) (fun j hj => (J0.out j hj).below BW2.out) HB60.out (by have := HN0.out; omega)).mono ?_
      rintro e w3 ⟨ov, jv, κ, mv, jc, rfl, hM⟩
      obtain ⟨oa, ol, oc, rfl⟩ := own_isSl hM.oo
      obtain ⟨ra, rl, rc, rfl⟩ := own_isSl hM.jo
      have HM := Lib.hid hM
      have BW3 := Lib.hid (BW2.out.trans (hM.bel.mono BW2.out.size))
      have z3 := hM.bel.size
      clear hM
      have J2 := Lib.hid (show ∀ x ∈ Js, JobV.Ok w2 x from fun x hx => (J0.out x hx).below BW2.out)
      have lp2 := HB2.out.hd.lt
      have lc2 := Blk.lt HB2.out.wd
      have HPC := Lib.hid (show (w.heap.size ≤ p ∧ p < w2.heap.size) ∧ (w.heap.size ≤ c ∧ c < w2.heap.size) from ⟨⟨by omega, lp2⟩, ⟨by omega, lc2⟩⟩)
      go_upto_region 13 with fail
      go_cut [13, 14] from 55 to 61 (fun x y wx => ∃ W R κ4 av ab κ2 J bb, x = .pointer (some ⟨W, 0, none⟩) ∧ y = .pointer (some ⟨R, 0, none⟩) ∧ Pl2 w wx W p c av ab R bb (.slice ra rl rc) 0 0 Js.length κ4 nilSl (s0J (List.replicate 256 0) Js) κ2 (.slice none 0 0) J (s0J (List.replicate 256 0) Js))
      case first =>
        refine wp_region_held_drew (S := fun w' => True) (by kernel_rfl) ?_ (fun hHeld => ?_)
        · try dsimp only
          all_goals trivial
        refine wpAnyH_take (i := 0) (v := ?_) rfl (by kernel_rfl) (by kernel_rfl) (by kernel_rfl) (fun _ _ _ h => h) (Or.inl ⟨by rfl, ?_⟩) (by assumption) ?_
        rotate_left
        · intro w0 hSw
          (try dsimp only at hSw)
          go_simp
          try with_reducible rfl
        try simp only [Act.put, List.getElem_toArray, List.getElem_cons_zero, List.getElem_cons_succ, List.setIfInBounds_toArray, List.set_cons_zero, List.set_cons_succ]
        refine wpAnyH_take (i := 1) (v := ?_) rfl (by kernel_rfl) (by kernel_rfl) (by kernel_rfl) (fun _ _ _ h => h) (Or.inl ⟨by rfl, ?_⟩) (by assumption) ?_
        rotate_left
        · intro w0 hSw
          (try dsimp only at hSw)
          go_simp
          try with_reducible rfl
        try simp only [Act.put, List.getElem_toArray, List.getElem_cons_zero, List.getElem_cons_succ, List.setIfInBounds_toArray, List.set_cons_zero, List.set_cons_succ]
        refine wpAnyH_take (i := 4) (v := ?_) rfl (by kernel_rfl) (by kernel_rfl) (by kernel_rfl) (fun _ _ _ h => h) (Or.inl ⟨by rfl, ?_⟩) (by assumption) ?_
        rotate_left
        · intro w0 hSw
          (try dsimp only at hSw)
          go_simp
          try with_reducible rfl
        try simp only [Act.put, List.getElem_toArray, List.getElem_cons_zero, List.getElem_cons_succ, List.setIfInBounds_toArray, List.set_cons_zero, List.set_cons_succ]
        refine wpAnyH_ready (rs := [2, 3]) (by kernel_rfl) (by simp) ?_
        refine AllReadyH.cons rfl (fun K hK => ?_) (AllReadyH.cons rfl (fun K hK => ?_) AllReadyH.nil)
        · go_simp
          go_at_call 8
          refine (new06 (HM.out.below (bel_drewN 1 (Below.refl _ _))) HB2.out (by have := HN0.out; omega)).mono ?_
          rintro e w4 ⟨W, κ4, av, ab, rfl, hW, hk4, hWs, b4⟩
          have HW := Lib.hid hW
          have HK4 := Lib.hid hk4
          have HWS := Lib.hid hWs
          have B4 := Lib.hid b4
          clear hW hk4 hWs b4
          go_wp2_with fail
          refine hK.out _ _ ?_ (fun hHeld => ?_)
          · try dsimp only
            all_goals trivial
          clear hK K
          try simp only [Act.put, List.getElem_toArray, List.getElem_cons_zero, List.getElem_cons_succ, List.setIfInBounds_toArray, List.set_cons_zero, List.set_cons_succ]
          refine wpAnyH_take (i := 7) (v := ?_) rfl (by kernel_rfl) (by kernel_rfl) (by kernel_rfl) (fun _ _ _ h => h) (Or.inl ⟨by rfl, ?_⟩) (by assumption) ?_
          rotate_left
          · intro w0 hSw
            (try dsimp only at hSw)
            go_simp
            try with_reducible rfl
          try simp only [Act.put, List.getElem_toArray, List.getElem_cons_zero, List.getElem_cons_succ, List.setIfInBounds_toArray, List.set_cons_zero, List.set_cons_succ]
          refine wpAnyH_ready (rs := [3]) (by kernel_rfl) (by simp) ?_
          refine AllReadyH.cons rfl (fun K hK => ?_) AllReadyH.nil
          refine wp_make256 _ _ rfl rfl rfl ?_
          refine hK.out _ _ ?_ (fun hHeld => ?_)
          · try dsimp only
            all_goals trivial
          clear hK K
          try simp only [Act.put, List.getElem_toArray, List.getElem_cons_zero, List.getElem_cons_succ, List.setIfInBounds_toArray, List.set_cons_zero, List.set_cons_succ]
          refine wpAnyH_take (i := 5) (v := ?_) rfl (by kernel_rfl) (by kernel_rfl) (by kernel_rfl) (fun _ _ _ h => h) (Or.inl ⟨by rfl, ?_⟩) (by assumption) ?_
          rotate_left
          · intro w0 hSw
            (try dsimp only at hSw)
            go_simp
            try with_reducible rfl
          try simp only [Act.put, List.getElem_toArray, List.getElem_cons_zero, List.getElem_cons_succ, List.setIfInBounds_toArray, List.set_cons_zero, List.set_cons_succ]
          refine wpAnyH_ready (rs := [6]) (by kernel_rfl) (by simp) ?_
          refine AllReadyH.cons rfl (fun K hK => ?_) AllReadyH.nil
          go_simp
          refine hK.out _ _ ?_ (fun hHeld => ?_)
          · try dsimp only
            all_goals trivial
          clear hK K
          try simp only [Act.put, List.getElem_toArray, List.getElem_cons_zero, List.getElem_cons_succ, List.setIfInBounds_toArray, List.set_cons_zero, List.set_cons_succ]
          refine wpAnyH_take (i := 8) (v := ?_) rfl (by kernel_rfl) (by kernel_rfl) (by kernel_rfl) (fun _ _ _ h => h) (Or.inl ⟨by rfl, ?_⟩) (by assumption) ?_
          rotate_left
          · intro w0 hSw
            (try dsimp only at hSw)
            go_simp
            try with_reducible rfl
          try simp only [Act.put, List.getElem_toArray, List.getElem_cons_zero, List.getElem_cons_succ, List.setIfInBounds_toArray, List.set_cons_zero, List.set_cons_succ]
          refine wpAnyH_done (by kernel_rfl) ?_ _
          go_wp2_with fail
          go_meet
          have BBX := (made256 w4).alloc (Obj.cells #[.slice (some ⟨w4.heap.size, 0, none⟩) 256 256, .slice ra rl rc, .int .i64 0, .slice none 0 0] 42)
          have RBX := Blk.made (w4.alloc (Obj.cells (madeCells #[.int .u8 0] 256) 5)) #[.slice (some ⟨w4.heap.size, 0, none⟩) 256 256, .slice ra rl rc, .int .i64 0, .slice none 0 0] 42
          rw [World.size_alloc] at RBX
          obtain ⟨κ2, J, hPl⟩ := pl_start HM.out J2.out HB60.out BW3.out (by omega) HPC.out.1 HPC.out.2 (bel_drewN 1 (Below.refl _ _)) HW.out HK4.out B4.out HWS.out (((Below.refl _ _).alloc (Nat.le_refl _) _).alloc (by simp) _) (.inr (by omega)) (.inr (by omega)) (by omega) RBX BBX
          exact ⟨W, _, κ4, av, ab, κ2, J, _, rfl, rfl, hPl⟩
        · refine wp_make256 _ _ rfl rfl rfl ?_
          refine hK.out _ _ ?_ (fun hHeld => ?_)
          · try dsimp only
            all_goals trivial
          clear hK K
          try simp only [Act.put, List.getElem_toArray, List.getElem_cons_zero, List.getElem_cons_succ, List.setIfInBounds_toArray, List.set_cons_zero, List.set_cons_succ]
          refine wpAnyH_take (i := 5) (v := ?_) rfl (by kernel_rfl) (by kernel_rfl) (by kernel_rfl) (fun _ _ _ h => h) (Or.inl ⟨by rfl, ?_⟩) (by assumption) ?_
          rotate_left
          · intro w0 hSw
            (try dsimp only at hSw)
            go_simp
            try with_reducible rfl
          try simp only [Act.put, List.getElem_toArray, List.getElem_cons_zero, List.getElem_cons_succ, List.setIfInBounds_toArray, List.set_cons_zero, List.set_cons_succ]
          refine wpAnyH_ready (rs := [2, 6]) (by kernel_rfl) (by simp) ?_
          refine AllReadyH.cons rfl (fun K hK => ?_) (AllReadyH.cons rfl (fun K hK => ?_) AllReadyH.nil)
          · go_simp
            go_at_call 8
            refine (new06 (HM.out.below ((bel_drewN 1 (Below.refl _ _)).alloc (Nat.le_refl _) _)) HB2.out (by have := HN0.out; omega)).mono ?_
            rintro e w4 ⟨W, κ4, av, ab, rfl, hW, hk4, hWs, b4⟩
            have HW := Lib.hid hW
            have HK4 := Lib.hid hk4
            have HWS := Lib.hid hWs
            have B4 := Lib.hid b4
            clear hW hk4 hWs b4
            go_wp2_with fail
            refine hK.out _ _ ?_ (fun hHeld => ?_)
            · try dsimp only
              all_goals trivial
            clear hK K
            try simp only [Act.put, List.getElem_toArray, List.getElem_cons_zero, List.getElem_cons_succ, List.setIfInBounds_toArray, List.set_cons_zero, List.set_cons_succ]
            refine wpAnyH_take (i := 7) (v := ?_) rfl (by kernel_rfl) (by kernel_rfl) (by kernel_rfl) (fun _ _ _ h => h) (Or.inl ⟨by rfl, ?_⟩) (by assumption) ?_
            rotate_left
            · intro w0 hSw
              (try dsimp only at hSw)
              go_simp
              try with_reducible rfl
            try simp only [Act.put, List.getElem_toArray, List.getElem_cons_zero, List.getElem_cons_succ, List.setIfInBounds_toArray, List.set_cons_zero, List.set_cons_succ]
            refine wpAnyH_ready (rs := [6]) (by kernel_rfl) (by simp) ?_
            refine AllReadyH.cons rfl (fun K hK => ?_) AllReadyH.nil
            go_simp
            refine hK.out _ _ ?_ (fun hHeld => ?_)
            · try dsimp only
              all_goals trivial
            clear hK K
            try simp only [Act.put, List.getElem_toArray, List.getElem_cons_zero, List.getElem_cons_succ, List.setIfInBounds_toArray, List.set_cons_zero, List.set_cons_succ]
            refine wpAnyH_take (i := 8) (v := ?_) rfl (by kernel_rfl) (by kernel_rfl) (by kernel_rfl) (fun _ _ _ h => h) (Or.inl ⟨by rfl, ?_⟩) (by assumption) ?_
            rotate_left
            · intro w0 hSw
              (try dsimp only at hSw)
              go_simp
              try with_reducible rfl
            try simp only [Act.put, List.getElem_toArray, List.getElem_cons_zero, List.getElem_cons_succ, List.setIfInBounds_toArray, List.set_cons_zero, List.set_cons_succ]
            refine wpAnyH_done (by kernel_rfl) ?_ _
            go_wp2_with fail
            go_meet
            have hz4 := B4.out.size
            have BBX := (Blk.below (Blk.drew (made256 w3)) B4.out (by simp)).alloc (Obj.cells #[.slice (some ⟨w3.heap.size, 0, none⟩) 256 256, .slice ra rl rc, .int .i64 0, .slice none 0 0] 42)
            have RBX := Blk.made w4 #[.slice (some ⟨w3.heap.size, 0, none⟩) 256 256, .slice ra rl rc, .int .i64 0, .slice none 0 0] 42
            simp at hz4
            obtain ⟨κ2, J, hPl⟩ := pl_start HM.out J2.out HB60.out BW3.out (by omega) HPC.out.1 HPC.out.2 ((bel_drewN 1 (Below.refl _ _)).alloc (Nat.le_refl _) _) HW.out HK4.out B4.out HWS.out ((Below.refl _ _).alloc (Nat.le_refl _) _) (.inr (by omega)) (.inl ⟨by omega, by simp⟩) (by omega) RBX BBX
            exact ⟨W, _, κ4, av, ab, κ2, J, _, rfl, rfl, hPl⟩
          · go_simp
            refine hK.out _ _ ?_ (fun hHeld => ?_)
            · try dsimp only
              all_goals trivial
            clear hK K
            try simp only [Act.put, List.getElem_toArray, List.getElem_cons_zero, List.getElem_cons_succ, List.setIfInBounds_toArray, List.set_cons_zero, List.set_cons_succ]
            refine wpAnyH_ready (rs := [2]) (by kernel_rfl) (by simp) ?_
            refine AllReadyH.cons rfl (fun K hK => ?_) AllReadyH.nil
            go_simp
            go_at_call 8
            refine (new06 (HM.out.below (((bel_drewN 1 (Below.refl _ _)).alloc (Nat.le_refl _) _).alloc (by simp) _)) HB2.out (by have := HN0.out; omega)).mono ?_
            rintro e w4 ⟨W, κ4, av, ab, rfl, hW, hk4, hWs, b4⟩
            have HW := Lib.hid hW
            have HK4 := Lib.hid hk4
            have HWS := Lib.hid hWs
            have B4 := Lib.hid b4
            clear hW hk4 hWs b4
            go_wp2_with fail
            refine hK.out _ _ ?_ (fun hHeld => ?_)
            · try dsimp only
              all_goals trivial
            clear hK K
            try simp only [Act.put, List.getElem_toArray, List.getElem_cons_zero, List.getElem_cons_succ, List.setIfInBounds_toArray, List.set_cons_zero, List.set_cons_succ]
            refine wpAnyH_take (i := 7) (v := ?_) rfl (by kernel_rfl) (by kernel_rfl) (by kernel_rfl) (fun _ _ _ h => h) (Or.inl ⟨by rfl, ?_⟩) (by assumption) ?_
            rotate_left
            · intro w0 hSw
              (try dsimp only at hSw)
              go_simp
              try with_reducible rfl
            try simp only [Act.put, List.getElem_toArray, List.getElem_cons_zero, List.getElem_cons_succ, List.setIfInBounds_toArray, List.set_cons_zero, List.set_cons_succ]
            refine wpAnyH_take (i := 8) (v := ?_) rfl (by kernel_rfl) (by kernel_rfl) (by kernel_rfl) (fun _ _ _ h => h) (Or.inl ⟨by rfl, ?_⟩) (by assumption) ?_
            rotate_left
            · intro w0 hSw
              (try dsimp only at hSw)
              go_simp
              try with_reducible rfl
            try simp only [Act.put, List.getElem_toArray, List.getElem_cons_zero, List.getElem_cons_succ, List.setIfInBounds_toArray, List.set_cons_zero, List.set_cons_succ]
            refine wpAnyH_done (by kernel_rfl) ?_ _
            go_wp2_with fail
            go_meet
            have hz4 := B4.out.size
            have BBX := Blk.below (Blk.drew ((made256 w3).alloc (Obj.cells #[.slice (some ⟨w3.heap.size, 0, none⟩) 256 256, .slice ra rl rc, .int .i64 0, .slice none 0 0] 42))) B4.out (by simp; omega)
            have RB0 := Blk.made (w3.alloc (Obj.cells (madeCells #[.int .u8 0] 256) 5)) #[.slice (some ⟨w3.heap.size, 0, none⟩) 256 256, .slice ra rl rc, .int .i64 0, .slice none 0 0] 42
            rw [World.size_alloc] at RB0
            have RBX := Blk.below (Blk.drew RB0) B4.out (by simp)
            simp at hz4
            obtain ⟨κ2, J, hPl⟩ := pl_start HM.out J2.out HB60.out BW3.out (by omega) HPC.out.1 HPC.out.2 (((bel_drewN 1 (Below.refl _ _)).alloc (Nat.le_refl _) _).alloc (by simp) _) HW.out HK4.out B4.out HWS.out (Below.refl _ _) (.inl ⟨by omega, by simp⟩) (.inl ⟨by omega, by simp; omega⟩) (by omega) RBX BBX
            exact ⟨W, _, κ4, av, ab, κ2, J, _, rfl, rfl, hPl⟩
      case rest =>
        obtain ⟨W, R, κ4, av, ab, κ2, J, bb, rfl, rfl, hPl⟩ := hcut
        have PL0 := Lib.hid hPl
        have FWZ := Lib.hid (few_zero J2.out HB60.out)
        clear hPl
        go_wp2_with fail
        go_loopw [64] (fun i wr => ∃ (k1 : Nat) (κr : Nat → Kd) (tvr : Value) (Sr : SW cpMac.σ) (κs : Nat → Kd) (tvs : Value) (J1 : List JbS), k1 ≤ n1 ∧ i = .int .i64 k1 ∧ Pl2 w wr W p c av ab R bb (.slice ra rl rc) k1 k1 Js.length κr tvr Sr κs tvs J1 Sr ∧ FewS 0 120 Sr k1) (fun i _ => n1 - (intOf i).toNat)
        case atStart => exact ⟨0, κ4, nilSl, _, κ2, .slice none 0 0, J, by omega, rfl, PL0.out, FWZ.out⟩
        case round =>
          obtain ⟨k1, κr, tvr, Sr, κs, tvs, J1, hk1, rfl, hP, hfw⟩ := hrel
          have HP := Lib.hid hP
          have HFW := Lib.hid hfw
          clear hfw
          by_cases hlt1 : k1 < n1
          · obtain ⟨g, off, cap, e, _, _, hcell⟩ := R1.out.row (by rw [List.length_map]; have := HN1.out; omega)
            obtain ⟨P, hPk⟩ : ∃ P, Ps[k1]? = some P := ⟨_, List.getElem?_eq_getElem (by rw [← HN1.out]; exact hlt1)⟩
            have hcs := hcell k1 P.cs (by rw [List.getElem?_map, hPk]; rfl)
            have hcw : ∀ j u, P.cs[j]? = some u → wr.cell? ⟨g, off + k1 * 3 + j, none⟩ = some u := fun j u hj => (hP.pk.bel.cell (p := ⟨g, off + k1 * 3 + j, none⟩) (World.block_lt_of_cell? w _ (hcs j u hj))).trans (hcs j u hj)
            obtain ⟨pk, pa, pn⟩ := P
            have d0 : wr.cell? ⟨g, off + k1 * 3, none⟩ = some (.int .i64 pk) := hcw 0 _ rfl
            have d1 : wr.cell? ⟨g, off + k1 * 3 + 1, none⟩ = some (.int .i64 pa) := hcw 1 _ rfl
            have d2 : wr.cell? ⟨g, off + k1 * 3 + 2, none⟩ = some (.int .i64 pn) := hcw 2 _ rfl
            have hgl : g < wr.heap.size := World.block_lt_of_cell? _ _ d0
            have ea : a1 = some ⟨g, off, none⟩ := by cases e; rfl
            subst ea
            have b5 : Below wr.heap.size wr (wr.alloc (.cells #[.int .i64 pk, .int .i64 pa, .int .i64 pn] 44)) := (Below.refl _ _).alloc (Nat.le_refl _) _
            have HP5 := Lib.hid (hP.below b5)
            have PB5 := Lib.hid (Blk.made wr #[.int .i64 pk, .int .i64 pa, .int .i64 pn] 44)
            have q0 := hP.pk.c0
            have q1 := hP.pk.c1
            have q2 := hP.pk.t
            have q3 := hP.pk.k0
            have q4 := hP.pk.k1
            have nkr := Lib.hid (show κr wr.heap.size = .no from no_big hP.pk.wo (Nat.le_refl _))
            have nks := Lib.hid (show κs wr.heap.size = .no from hP.ro.no_big (Nat.le_refl _))
            clear e hcell hcs hcw hP hPk b5
            go_wp2_with fail
            refine (wPick_any cpUntimed HP5.out.pk.wo pk pa pn q0 (by omega) q3 (by omega) (by omega)).mono ?_
            rintro e w7 ⟨s0, sl, sc, t0, tl, tc, rfl, o1, o2, κ7, tv7, h7, k7, kn7, kp7⟩
            obtain ⟨E7, hE7⟩ : ∃ E, E = (cpMac.pick Sr pk pa pn).2.1 := ⟨_, rfl⟩
            obtain ⟨f7, hf7⟩ : ∃ f, f = (cpMac.pick Sr pk pa pn).2.2 := ⟨_, rfl⟩
            have hE7' : (cpFam.M.pick Sr pk pa pn).2.1 = E7 := hE7.symm
            have hf7' : (cpFam.M.pick Sr pk pa pn).2.2 = f7 := hf7.symm
            rw [hE7'] at o1 o2
            rw [hE7', hf7']
            have P7 := HP5.out.prog pk pa pn h7 k7 kp7
            have z7 := kp7.size
            rw [World.size_alloc] at z7
            have PB7 := Lib.hid (PB5.out.keep kp7 (by show ¬ κr wr.heap.size ≠ .no; rw [nkr.out]; simp))
            have X7 := Lib.hid (Blk.made w7 #[.int .i64 E7.pk, .int .i64 E7.pa, .int .i64 E7.pn, .int .i64 E7.c.k, .int .i64 E7.c.a, .int .i64 E7.c.n, .int .u64 E7.c.v, .int .u64 E7.c.x, .slice s0 sl sc, .int .u64 E7.x.v, .bool E7.x.d, .slice t0 tl tc] 51)
            have b8 : Below w7.heap.size w7 (w7.alloc (.cells #[.int .i64 E7.pk, .int .i64 E7.pa, .int .i64 E7.pn, .int .i64 E7.c.k, .int .i64 E7.c.a, .int .i64 E7.c.n, .int .u64 E7.c.v, .int .u64 E7.c.x, .slice s0 sl sc, .int .u64 E7.x.v, .bool E7.x.d, .slice t0 tl tc] 51)) := (Below.refl _ _).alloc (Nat.le_refl _) _
            have P8 := Lib.hid (P7.below b8)
            have PB8 := Lib.hid (PB7.out.below b8 PB7.out.lt)
            have RD1 := Lib.hid (show RdB (w7.alloc (.cells #[.int .i64 E7.pk, .int .i64 E7.pa, .int .i64 E7.pn, .int .i64 E7.c.k, .int .i64 E7.c.a, .int .i64 E7.c.n, .int .u64 E7.c.v, .int .u64 E7.c.x, .slice s0 sl sc, .int .u64 E7.x.v, .bool E7.x.d, .slice t0 tl tc] 51)) (.slice s0 sl sc) E7.c.b from o1.rd.below b8)
            have RD2 := Lib.hid (show RdB (w7.alloc (.cells #[.int .i64 E7.pk, .int .i64 E7.pa, .int .i64 E7.pn, .int .i64 E7.c.k, .int .i64 E7.c.a, .int .i64 E7.c.n, .int .u64 E7.c.v, .int .u64 E7.c.x, .slice s0 sl sc, .int .u64 E7.x.v, .bool E7.x.d, .slice t0 tl tc] 51)) (.slice t0 tl tc) E7.x.b from o2.rd.below b8)
            have own1 := Lib.hid (show ∀ i, (Value.slice s0 sl sc).ownBlock = some i ∨ (Value.slice t0 tl tc).ownBlock = some i → wr.heap.size < i from fun i hi => by
              rcases hi with hi | hi
              · have := (World.ownsRow.lt o1 i hi).1; rw [World.size_alloc] at this; omega
              · have := (World.ownsRow.lt o2 i hi).1; rw [World.size_alloc] at this; omega)
            have HE7 := Lib.hid hE7
            have HF7 := Lib.hid hf7
            have KSA := Lib.hid (show ∀ i, κs i ≠ .no → i < wr.heap.size from fun i hi => HP.out.ro.all i hi)
            have hwr7 : wr.heap.size < w7.heap.size := by omega
            obtain ⟨y0, y1, y2⟩ := PB8.out.c3
            have hrp := rPick_any P8.out.ro pk pa pn k1 (by omega) P8.out.tl q3 (by omega) (by omega)
            rw [show J1.length = Js.length from HP.out.jl] at hrp
            have HRP := Lib.hid hrp
            clear d0 d1 d2 o1 o2 h7 k7 kn7 kp7 hE7' hf7' P7 b8 hrp hE7 hf7 z7
            unfold evV
            go_wp2_with fail
            refine HRP.out.mono ?_
            rintro e w9 ⟨m0, ml, mc, l0, ll, lc, rfl, r1, r2, κ9, tv9, J9, h9, k9, l9, n9, kp9⟩
            rw [← HE7.out] at r1 r2
            rw [← HE7.out, ← HF7.out]
            have P9 := P8.out.refp h9 k9 l9 n9 kp9
            have z9 := kp9.size
            rw [World.size_alloc] at z9
            have ks7 : κs w7.heap.size = .no := by
              by_cases h : κs w7.heap.size = .no
              · exact h
              · have := KSA.out _ h; omega
            have X9 := Lib.hid (((Blk.made w7 #[.int .i64 E7.pk, .int .i64 E7.pa, .int .i64 E7.pn, .int .i64 E7.c.k, .int .i64 E7.c.a, .int .i64 E7.c.n, .int .u64 E7.c.v, .int .u64 E7.c.x, .slice s0 sl sc, .int .u64 E7.x.v, .bool E7.x.d, .slice t0 tl tc] 51)).keep kp9 (by show ¬ κs w7.heap.size ≠ .no; rw [ks7]; simp))
            have own2 : ∀ i, (Value.slice s0 sl sc).ownBlock = some i ∨ (Value.slice t0 tl tc).ownBlock = some i → ¬ κs i ≠ .no := fun i hi h => by have := own1.out i hi; have := KSA.out i h; omega
            have R1' := Lib.hid (RD1.out.keep kp9 (fun _ i hi => own2 i (.inl hi)))
            have R2' := Lib.hid (RD2.out.keep kp9 (fun _ i hi => own2 i (.inr hi)))
            obtain ⟨w10, hw10⟩ : ∃ w10, w10 = w9.alloc (.cells #[.int .i64 E7.pk, .int .i64 E7.pa, .int .i64 E7.pn, .int .i64 E7.c.k, .int .i64 E7.c.a, .int .i64 E7.c.n, .int .u64 E7.c.v, .int .u64 E7.c.x, .slice m0 ml mc, .int .u64 E7.x.v, .bool E7.x.d, .slice l0 ll lc] 51) := ⟨_, rfl⟩
            have b10 : Below w9.heap.size w9 w10 := by rw [hw10]; exact (Below.refl _ _).alloc (Nat.le_refl _) _
            have z10 : w10.heap.size = w9.heap.size + 1 := by rw [hw10]; simp
            have XA := Lib.hid (show Blk w10 w7.heap.size [.int .i64 E7.pk, .int .i64 E7.pa, .int .i64 E7.pn, .int .i64 E7.c.k, .int .i64 E7.c.a, .int .i64 E7.c.n, .int .u64 E7.c.v, .int .u64 E7.c.x, .slice s0 sl sc, .int .u64 E7.x.v, .bool E7.x.d, .slice t0 tl tc] from X9.out.below b10 X9.out.lt)
            have XC := Lib.hid (show Blk w10 w9.heap.size [.int .i64 E7.pk, .int .i64 E7.pa, .int .i64 E7.pn, .int .i64 E7.c.k, .int .i64 E7.c.a, .int .i64 E7.c.n, .int .u64 E7.c.v, .int .u64 E7.c.x, .slice m0 ml mc, .int .u64 E7.x.v, .bool E7.x.d, .slice l0 ll lc] by rw [hw10]; exact Blk.made w9 _ _)
            have RA1 := R1'.out.below b10
            have RA2 := R2'.out.below b10
            have RC1 := r1.below b10
            have RC2 := r2.below b10
            have P10 := Lib.hid (P9.below b10)
            have ER1 := evRd_one w10 E7 s0 t0 sl sc tl tc RA1 RA2
            have bb1 : Below w10.heap.size w10 (w10.alloc (.cells #[.int .i64 E7.pk, .int .i64 E7.pa, .int .i64 E7.pn, .int .i64 E7.c.k, .int .i64 E7.c.a, .int .i64 E7.c.n, .int .u64 E7.c.v, .int .u64 E7.c.x, .slice s0 sl sc, .int .u64 E7.x.v, .bool E7.x.d, .slice t0 tl tc] 51)) := (Below.refl _ _).alloc (Nat.le_refl _) _
            have ER2 := evRd_one (w10.alloc (.cells #[.int .i64 E7.pk, .int .i64 E7.pa, .int .i64 E7.pn, .int .i64 E7.c.k, .int .i64 E7.c.a, .int .i64 E7.c.n, .int .u64 E7.c.v, .int .u64 E7.c.x, .slice s0 sl sc, .int .u64 E7.x.v, .bool E7.x.d, .slice t0 tl tc] 51)) E7 m0 l0 ml mc ll lc (RC1.below bb1) (RC2.below bb1)
            rw [World.size_alloc] at ER2
            have bb2 := (Below.refl (w10.alloc (.cells #[.int .i64 E7.pk, .int .i64 E7.pa, .int .i64 E7.pn, .int .i64 E7.c.k, .int .i64 E7.c.a, .int .i64 E7.c.n, .int .u64 E7.c.v, .int .u64 E7.c.x, .slice s0 sl sc, .int .u64 E7.x.v, .bool E7.x.d, .slice t0 tl tc] 51)).heap.size (w10.alloc (.cells #[.int .i64 E7.pk, .int .i64 E7.pa, .int .i64 E7.pn, .int .i64 E7.c.k, .int .i64 E7.c.a, .int .i64 E7.c.n, .int .u64 E7.c.v, .int .u64 E7.c.x, .slice s0 sl sc, .int .u64 E7.x.v, .bool E7.x.d, .slice t0 tl tc] 51))).alloc (Nat.le_refl _) (.cells #[.int .i64 E7.pk, .int .i64 E7.pa, .int .i64 E7.pn, .int .i64 E7.c.k, .int .i64 E7.c.a, .int .i64 E7.c.n, .int .u64 E7.c.v, .int .u64 E7.c.x, .slice m0 ml mc, .int .u64 E7.x.v, .bool E7.x.d, .slice l0 ll lc] 51)
            have HSM := Lib.hid (same06_rd (l := [E7]) (by simp) (ER1.below bb2) ER2)
            have P12 := Lib.hid (P10.out.below (bb1.trans (bb2.mono (by simp))))
            have ff : (f7 != f7) = false := by simp
            obtain ⟨y0, y1, y2, y3, y4, y5, y6, y7, y8, y9, y10, y11⟩ := XA.out.c12
            obtain ⟨x0, x1, x2, x3, x4, x5, x6, x7, x8, x9, x10, x11⟩ := XC.out.c12
            have xlA := XA.out.lt
            have xlC := XC.out.lt
            clear h9 k9 l9 n9 kp9 P9 z9 r1 r2 b10 RA1 RA2 RC1 RC2 ER1 ER2 bb1 bb2 own2 z10 ks7
            unfold evV
            go_upto_region 19 with fail
            rw [← hw10]
            clear hw10
            go_wp2_with fail
            refine HSM.out.mono ?_
            rintro e w13 ⟨rfl, b13⟩
            have P13 := Lib.hid (P12.out.below b13)
            clear b13
            go_wp2
            exact ⟨⟨k1 + 1, κ7, tv7, _, κ9, tv9, J9, by omega, by go_num, P13.out, HFW.out.pick pk pa pn (by omega)⟩, by simp [intOf]; omega⟩
          · obtain rfl : k1 = n1 := by omega
            have q0 := hP.pk.c0
            have q1 := hP.pk.c1
            have q2 := hP.pk.t
            have q3 := hP.pk.k0
            have q4 := hP.pk.k1
            have HAC := Lib.hid (show (show SW CpM from Sr).acts.length = Js.length from hP.ro.al.trans hP.jl)
            have JS6 := Lib.hid (show Js.length ≤ 6 by have := HN0.out; omega)
            have b0 : Below wr.heap.size wr wr.drew := bel_drewN 1 (Below.refl _ _)
            have P0 := Lib.hid (hP.below b0)
            clear b0
            have FW0 := Lib.hid (show FewS (show SW CpM from Sr).tr.length m Sr 0 from few_start HFW.out)
            obtain ⟨RN, hRN⟩ : ∃ n, n = (cpMac.robin m Sr).2 := ⟨_, rfl⟩
            obtain ⟨SF, hSF⟩ : ∃ S, S = (cpMac.robin m Sr).1 := ⟨_, rfl⟩
            have HRN := Lib.hid hRN
            have HSF := Lib.hid hSF
            have fwF := few_robin m FW0.out
            have FTR := Lib.hid (show (show SW CpM from SF).tr.length ≤ 100000 by
              have h1 := fwF.tr
              have h2 := fwF.n1
              have e : (show SW CpM from SF) = (cpMac.robin m Sr).1 := hSF
              rw [e]
              have q2' : (show SW CpM from Sr).tr.length ≤ k1 := q2
              show ((cpMac.robin m Sr).1 : SW CpM).tr.length ≤ 100000
              have h1' : (((cpMac.robin m Sr).1 : SW CpM).tr.length : Int) ≤ ((show SW CpM from Sr).tr.length : Int) + (cpMac.robin m Sr).2 := h1
              omega)
            have FEW := Lib.hid (show ∀ e ∈ (show SW CpM from SF).tr, e.c.b.length ≤ 70368744177664 ∧ e.x.b.length ≤ 70368744177664 from fun e he => fwF.ev e (by rw [← hSF]; exact he))
            have Wm : IntKind.i64.wrap m = m := by rw [IntWalk.i64_in _ ⟨by omega, by omega⟩]
            have RM := Lib.hid (show m ≤ 900000 by omega)
            have RB1 := Lib.hid (show (show SW CpM from Sr).cnt ≤ 1000000000000 by
              have q1' : (show SW CpM from Sr).cnt ≤ k1 := q1
              omega)
            have RB2 := Lib.hid (show (show SW CpM from Sr).tr.length ≤ 50000 by
              have q2' : (show SW CpM from Sr).tr.length ≤ k1 := q2
              omega)
            have RB3 := Lib.hid (show (show SW CpM from Sr).acts.length ≤ 1000000 by
              have h1 := HAC.out
              have h2 := JS6.out
              rw [h1]
              omega)
            have RB4 := Lib.hid (show (show SW CpM from Sr).clk ≤ 1152921504606846976 by
              have q4' : (show SW CpM from Sr).clk ≤ k1 * 1099511627776 := q4
              omega)
            have RB5 := Lib.hid (show J1.length ≤ 1000000 by rw [HP.out.jl]; have := JS6.out; omega)
            clear hP hRN hSF fwF
            go_upto_region 22 with fail
            refine wp_region_held_drew (S := fun w' => True) (by kernel_rfl) ?_ (fun hHeld => ?_)
            · try dsimp only
              all_goals trivial
            refine wpAnyH_take (i := 0) (v := ?_) rfl (by kernel_rfl) (by kernel_rfl) (by kernel_rfl) (fun _ _ _ h => h) (Or.inl ⟨by rfl, ?_⟩) (by assumption) ?_
            rotate_left
            · intro w0 hSw
              (try dsimp only at hSw)
              go_simp
              try with_reducible rfl
            try simp only [Act.put, List.getElem_toArray, List.getElem_cons_zero, List.getElem_cons_succ, List.setIfInBounds_toArray, List.set_cons_zero, List.set_cons_succ]
            refine wpAnyH_take (i := 1) (v := ?_) rfl (by kernel_rfl) (by kernel_rfl) (by kernel_rfl) (fun _ _ _ h => h) (Or.inl ⟨by rfl, ?_⟩) (by assumption) ?_
            rotate_left
            · intro w0 hSw
              (try dsimp only at hSw)
              go_simp
              try with_reducible rfl
            try simp only [Act.put, List.getElem_toArray, List.getElem_cons_zero, List.getElem_cons_succ, List.setIfInBounds_toArray, List.set_cons_zero, List.set_cons_succ]
            refine wpAnyH_take (i := 2) (v := ?_) rfl (by kernel_rfl) (by kernel_rfl) (by kernel_rfl) (fun _ _ _ h => h) (Or.inl ⟨by rfl, ?_⟩) (by assumption) ?_
            rotate_left
            · intro w0 hSw
              (try dsimp only at hSw)
              go_simp
              try with_reducible rfl
            try simp only [Act.put, List.getElem_toArray, List.getElem_cons_zero, List.getElem_cons_succ, List.setIfInBounds_toArray, List.set_cons_zero, List.set_cons_succ]
            refine wpAnyH_take (i := 4) (v := ?_) rfl (by kernel_rfl) (by kernel_rfl) (by kernel_rfl) (fun _ _ _ h => h) (Or.inl ⟨by rfl, ?_⟩) (by assumption) ?_
            rotate_left
            · intro w0 hSw
              (try dsimp only at hSw)
              go_simp
              try with_reducible rfl
            try simp only [Act.put, List.getElem_toArray, List.getElem_cons_zero, List.getElem_cons_succ, List.setIfInBounds_toArray, List.set_cons_zero, List.set_cons_succ]
            refine wpAnyH_take (i := 5) (v := ?_) rfl (by kernel_rfl) (by kernel_rfl) (by kernel_rfl) (fun _ _ _ h => h) (Or.inl ⟨by rfl, ?_⟩) (by assumption) ?_
            rotate_left
            · intro w0 hSw
              (try dsimp only at hSw)
              go_simp
              try with_reducible rfl
            try simp only [Act.put, List.getElem_toArray, List.getElem_cons_zero, List.getElem_cons_succ, List.setIfInBounds_toArray, List.set_cons_zero, List.set_cons_succ]
            refine wpAnyH_take (i := 6) (v := ?_) rfl (by kernel_rfl) (by kernel_rfl) (by kernel_rfl) (fun _ _ _ h => h) (Or.inl ⟨by rfl, ?_⟩) (by assumption) ?_
            rotate_left
            · intro w0 hSw
              (try dsimp only at hSw)
              go_simp
              try with_reducible rfl
            try simp only [Act.put, List.getElem_toArray, List.getElem_cons_zero, List.getElem_cons_succ, List.setIfInBounds_toArray, List.set_cons_zero, List.set_cons_succ]
            refine wpAnyH_ready (rs := [3]) (by kernel_rfl) (by simp) ?_
            refine AllReadyH.cons rfl (fun K hK => ?_) AllReadyH.nil
            go_simp
            go_at_call 12
            refine (wRobin_any (C := cpFam) (P0.out.pk.wo) m RM.out q0 RB1.out RB2.out RB3.out).mono ?_
            rintro e wA ⟨rfl, κA, tvA, hA, kA, kpA⟩
            have hRn : (cpFam.M.robin m Sr).2 = RN := HRN.out.symm
            rw [hRn]
            have HA := Lib.hid hA
            have KA := Lib.hid kA
            have KPA := Lib.hid kpA
            clear hA kA kpA hRn
            go_wp2_with fail
            refine hK.out _ _ ?_ (fun hHeld => ?_)
            · try dsimp only
              all_goals trivial
            clear hK K
            try simp only [Act.put, List.getElem_toArray, List.getElem_cons_zero, List.getElem_cons_succ, List.setIfInBounds_toArray, List.set_cons_zero, List.set_cons_succ]
            refine wpAnyH_ready (rs := [7]) (by kernel_rfl) (by simp) ?_
            refine AllReadyH.cons rfl (fun K hK => ?_) AllReadyH.nil
            go_simp
            go_at_call 13
            refine (rRobin_any (P0.out.ro.keep KPA.out (fun i hi h => h (P0.out.dj i hi))) m (by omega) k1 (by omega) P0.out.tl q3 RB4.out RB2.out RB5.out).mono ?_
            rintro e wB ⟨rfl, κB, tvB, JB, hB, kB, lB, nB, kpB⟩
            rw [← HRN.out]
            have HB := Lib.hid hB
            have KB := Lib.hid kB
            have LBB := Lib.hid lB
            have NBB := Lib.hid (nB.trans P0.out.jl)
            have KPB := Lib.hid kpB
            clear hB kB lB nB kpB
            go_wp2_with fail
            refine hK.out _ _ ?_ (fun hHeld => ?_)
            · try dsimp only
              all_goals trivial
            clear hK K
            try simp only [Act.put, List.getElem_toArray, List.getElem_cons_zero, List.getElem_cons_succ, List.setIfInBounds_toArray, List.set_cons_zero, List.set_cons_succ]
            obtain ⟨hWB, hRB, bwB⟩ := pl_robin P0.out HA.out KA.out KPA.out HB.out KB.out KPB.out
            have WB := Lib.hid (Eq.mpr (congrArg (fun S : SW CpM => WoIn cpFam wB κA W p c av tvA ab S) HSF.out) hWB)
            have hRB := Eq.mpr (congrArg (fun S : SW CpM => RoIn wB κB R bb (.slice ra rl rc) tvB JB S) HSF.out) hRB
            have RB := Lib.hid hRB
            have BWB := Lib.hid bwB
            obtain ⟨CK, hck⟩ : ∃ c, c = SF.clk := ⟨_, rfl⟩
            obtain ⟨BS, hbs⟩ : ∃ c, c = SF.bs := ⟨_, rfl⟩
            obtain ⟨LB, hlb⟩ : ∃ c, c = BS.length := ⟨_, rfl⟩
            have HCK := Lib.hid hck
            have HBS := Lib.hid hbs
            have HLB := Lib.hid hlb
            obtain ⟨c0', c1', c2', c3'⟩ := hRB.cells
            rw [← hbs, ← hlb] at c0'
            rw [← hck] at c2'
            have hby := hRB.by_
            rw [← hbs] at hby
            have hbl := hRB.bl
            rw [← hbs, ← hlb] at hbl
            have hrdF : RdB wB (.slice (some ⟨bb, 0, none⟩) LB LB) BS := by
              have h1 := rd_sub hby (a := 0) (n := LB) (by omega) (by unfold maxLen; omega)
              rw [List.drop_zero, List.take_of_length_le (by rw [hlb]; exact Nat.le_refl _), Nat.sub_zero, ← hlb] at h1
              exact h1
            have RDF := Lib.hid hrdF
            have cvF := conv_rd 26 9 Try.underlying26 Try.underlying9 hrdF
            clear hWB hRB bwB hck hbs hlb hby hbl hrdF
            refine wpAnyH_take (i := 8) (v := ?_) rfl (by kernel_rfl) (by kernel_rfl) (by kernel_rfl) (fun _ _ _ h => h) (Or.inl ⟨by rfl, ?_⟩) (by assumption) ?_
            rotate_left
            · intro w0 hSw
              (try dsimp only at hSw)
              go_simp
              try with_reducible rfl
            try simp only [Act.put, List.getElem_toArray, List.getElem_cons_zero, List.getElem_cons_succ, List.setIfInBounds_toArray, List.set_cons_zero, List.set_cons_succ]
            refine wpAnyH_take (i := 9) (v := ?_) rfl (by kernel_rfl) (by kernel_rfl) (by kernel_rfl) (fun _ _ _ h => h) (Or.inl ⟨by rfl, ?_⟩) (by assumption) ?_
            rotate_left
            · intro w0 hSw
              (try dsimp only at hSw)
              go_simp
              try with_reducible rfl
            try simp only [Act.put, List.getElem_toArray, List.getElem_cons_zero, List.getElem_cons_succ, List.setIfInBounds_toArray, List.set_cons_zero, List.set_cons_succ]
            refine wpAnyH_take (i := 10) (v := ?_) rfl (by kernel_rfl) (by kernel_rfl) (by kernel_rfl) (fun _ _ _ h => h) (Or.inl ⟨by rfl, ?_⟩) (by assumption) ?_
            rotate_left
            · intro w0 hSw
              (try dsimp only at hSw)
              go_simp
              try with_reducible rfl
            try simp only [Act.put, List.getElem_toArray, List.getElem_cons_zero, List.getElem_cons_succ, List.setIfInBounds_toArray, List.set_cons_zero, List.set_cons_succ]
            refine wpAnyH_take (i := 11) (v := ?_) rfl (by kernel_rfl) (by kernel_rfl) (by kernel_rfl) (fun _ _ _ h => h) (Or.inl ⟨by rfl, ?_⟩) (by assumption) ?_
            rotate_left
            · intro w0 hSw
              (try dsimp only at hSw)
              go_simp
              try with_reducible rfl
            try simp only [Act.put, List.getElem_toArray, List.getElem_cons_zero, List.getElem_cons_succ, List.setIfInBounds_toArray, List.set_cons_zero, List.set_cons_succ]
            refine wpAnyH_take (i := 12) (v := ?_) rfl (by kernel_rfl) (by kernel_rfl) (by kernel_rfl) (fun _ _ _ h => h) (Or.inl ⟨by rfl, ?_⟩) (by assumption) ?_
            rotate_left
            · intro w0 hSw
              (try dsimp only at hSw)
              go_simp
              try with_reducible rfl
            try simp only [Act.put, List.getElem_toArray, List.getElem_cons_zero, List.getElem_cons_succ, List.setIfInBounds_toArray, List.set_cons_zero, List.set_cons_succ]
            refine wpAnyH_take (i := 13) (v := ?_) rfl (by kernel_rfl) (by kernel_rfl) (by kernel_rfl) (fun _ _ _ h => h) (Or.inl ⟨by rfl, ?_⟩) (by assumption) ?_
            rotate_left
            · intro w0 hSw
              (try dsimp only at hSw)
              go_simp
              try with_reducible rfl
            try simp only [Act.put, List.getElem_toArray, List.getElem_cons_zero, List.getElem_cons_succ, List.setIfInBounds_toArray, List.set_cons_zero, List.set_cons_succ]
            refine wpAnyH_more (S' := fun w' => w'.cell? ⟨R, 0, none⟩ = some (.slice (some ⟨bb, 0, none⟩) LB LB) ∧ w'.cell? ⟨R, 2, none⟩ = some (.int .i64 CK) ∧ w'.cell? ⟨R, 3, none⟩ = some tvB ∧ (convert 26 9 (.slice (some ⟨bb, 0, none⟩) LB LB)).run Try.prog w' = .ok (.string (strOfNums BS)) w') (fun w h => trivial) _ _ _ _ ?_
            have hHeld : (fun w' => w'.cell? ⟨R, 0, none⟩ = some (.slice (some ⟨bb, 0, none⟩) LB LB) ∧ w'.cell? ⟨R, 2, none⟩ = some (.int .i64 CK) ∧ w'.cell? ⟨R, 3, none⟩ = some tvB ∧ (convert 26 9 (.slice (some ⟨bb, 0, none⟩) LB LB)).run Try.prog w' = .ok (.string (strOfNums BS)) w') wB := ⟨c0', c2', c3', cvF⟩
            refine wpAnyH_take (i := 14) (v := ?_) rfl (by kernel_rfl) (by kernel_rfl) (by kernel_rfl) (fun _ _ _ h => h) (Or.inl ⟨by rfl, ?_⟩) (by assumption) ?_
            rotate_left
            · intro w0 hSw
              (try dsimp only at hSw)
              go_simp
              try with_reducible rfl
            try simp only [Act.put, List.getElem_toArray, List.getElem_cons_zero, List.getElem_cons_succ, List.setIfInBounds_toArray, List.set_cons_zero, List.set_cons_succ]
            refine wpAnyH_take (i := 16) (v := ?_) rfl (by kernel_rfl) (by kernel_rfl) (by kernel_rfl) (fun _ _ _ h => h) (Or.inl ⟨by rfl, ?_⟩) (by assumption) ?_
            rotate_left
            · intro w0 hSw
              (try dsimp only at hSw)
              go_simp
              try with_reducible rfl
            try simp only [Act.put, List.getElem_toArray, List.getElem_cons_zero, List.getElem_cons_succ, List.setIfInBounds_toArray, List.set_cons_zero, List.set_cons_succ]
            refine wpAnyH_take (i := 17) (v := ?_) rfl (by kernel_rfl) (by kernel_rfl) (by kernel_rfl) (fun _ _ _ h => h) (Or.inl ⟨by rfl, ?_⟩) (by assumption) ?_
            rotate_left
            · intro w0 hSw
              (try dsimp only at hSw)
              go_simp
              try with_reducible rfl
            try simp only [Act.put, List.getElem_toArray, List.getElem_cons_zero, List.getElem_cons_succ, List.setIfInBounds_toArray, List.set_cons_zero, List.set_cons_succ]
            refine wpAnyH_take (i := 18) (v := ?_) rfl (by kernel_rfl) (by kernel_rfl) (by kernel_rfl) (fun _ _ _ h => h) (Or.inl ⟨by rfl, ?_⟩) (by assumption) ?_
            rotate_left
            · intro w0 hSw
              (try dsimp only at hSw)
              go_simp
              try with_reducible rfl
            try simp only [Act.put, List.getElem_toArray, List.getElem_cons_zero, List.getElem_cons_succ, List.setIfInBounds_toArray, List.set_cons_zero, List.set_cons_succ]
            refine wpAnyH_take (i := 19) (v := ?_) rfl (by kernel_rfl) (by kernel_rfl) (by kernel_rfl) (fun _ _ _ h => h) (Or.inl ⟨by rfl, ?_⟩) (by assumption) ?_
            rotate_left
            · intro w0 hSw
              (try dsimp only at hSw)
              go_simp
              try with_reducible rfl
            try simp only [Act.put, List.getElem_toArray, List.getElem_cons_zero, List.getElem_cons_succ, List.setIfInBounds_toArray, List.set_cons_zero, List.set_cons_succ]
            refine wpAnyH_ready (rs := [15]) (by kernel_rfl) (by simp) ?_
            refine AllReadyH.cons rfl (fun K hK => ?_) AllReadyH.nil
            go_simp
            go_at_call 14
            refine (wClock_any (C := cpFam) WB.out).mono ?_
            rintro e w' ⟨rfl, rfl⟩
            rw [show (show SW CpM from SF).clk = CK from HCK.out.symm]
            go_wp2_with fail
            refine hK.out _ _ ?_ (fun hHeld => ?_)
            · try dsimp only
              exact hHeld
            clear hK K
            try simp only [Act.put, List.getElem_toArray, List.getElem_cons_zero, List.getElem_cons_succ, List.setIfInBounds_toArray, List.set_cons_zero, List.set_cons_succ]
            refine wpAnyH_take (i := 20) (v := ?_) rfl (by kernel_rfl) (by kernel_rfl) (by kernel_rfl) (fun _ _ _ h => h) (Or.inl ⟨by rfl, ?_⟩) (by assumption) ?_
            rotate_left
            · intro w0 hSw
              (try dsimp only at hSw)
              go_simp
              try with_reducible rfl
            try simp only [Act.put, List.getElem_toArray, List.getElem_cons_zero, List.getElem_cons_succ, List.setIfInBounds_toArray, List.set_cons_zero, List.set_cons_succ]
            refine wpAnyH_take (i := 21) (v := ?_) rfl (by kernel_rfl) (by kernel_rfl) (by kernel_rfl) (fun _ _ _ h => h) (Or.inl ⟨by rfl, ?_⟩) (by assumption) ?_
            rotate_left
            · intro w0 hSw
              (try dsimp only at hSw)
              go_simp
              try with_reducible rfl
            try simp only [Act.put, List.getElem_toArray, List.getElem_cons_zero, List.getElem_cons_succ, List.setIfInBounds_toArray, List.set_cons_zero, List.set_cons_succ]
            refine wpAnyH_take (i := 22) (v := ?_) rfl (by kernel_rfl) (by kernel_rfl) (by kernel_rfl) (fun _ _ _ h => h) (Or.inl ⟨by rfl, ?_⟩) (by assumption) ?_
            rotate_left
            · intro w0 hSw
              (try dsimp only at hSw)
              go_simp
              try with_reducible rfl
            try simp only [Act.put, List.getElem_toArray, List.getElem_cons_zero, List.getElem_cons_succ, List.setIfInBounds_toArray, List.set_cons_zero, List.set_cons_succ]
            refine wpAnyH_take (i := 23) (v := ?_) rfl (by kernel_rfl) (by kernel_rfl) (by kernel_rfl) (fun _ _ _ h => h) (Or.inl ⟨by rfl, ?_⟩) (by assumption) ?_
            rotate_left
            · intro w0 hSw
              (try dsimp only at hSw)
              go_simp
              try with_reducible rfl
            try simp only [Act.put, List.getElem_toArray, List.getElem_cons_zero, List.getElem_cons_succ, List.setIfInBounds_toArray, List.set_cons_zero, List.set_cons_succ]
            refine wpAnyH_take (i := 26) (v := ?_) rfl (by kernel_rfl) (by kernel_rfl) (by kernel_rfl) (fun _ _ _ h => h) (Or.inl ⟨by rfl, ?_⟩) (by assumption) ?_
            rotate_left
            · intro w0 hSw
              (try dsimp only at hSw)
              go_simp
              try with_reducible rfl
            try simp only [Act.put, List.getElem_toArray, List.getElem_cons_zero, List.getElem_cons_succ, List.setIfInBounds_toArray, List.set_cons_zero, List.set_cons_succ]
            refine wpAnyH_take (i := 27) (v := ?_) rfl (by kernel_rfl) (by kernel_rfl) (by kernel_rfl) (fun _ _ _ h => h) (Or.inl ⟨by rfl, ?_⟩) (by assumption) ?_
            rotate_left
            · intro w0 hSw
              (try dsimp only at hSw)
              go_simp
              try with_reducible rfl
            try simp only [Act.put, List.getElem_toArray, List.getElem_cons_zero, List.getElem_cons_succ, List.setIfInBounds_toArray, List.set_cons_zero, List.set_cons_succ]
            refine wpAnyH_take (i := 28) (v := ?_) rfl (by kernel_rfl) (by kernel_rfl) (by kernel_rfl) (fun _ _ _ h => h) (Or.inl ⟨by rfl, ?_⟩) (by assumption) ?_
            rotate_left
            · intro w0 hSw
              (try dsimp only at hSw)
              go_simp
              try with_reducible rfl
            try simp only [Act.put, List.getElem_toArray, List.getElem_cons_zero, List.getElem_cons_succ, List.setIfInBounds_toArray, List.set_cons_zero, List.set_cons_succ]
            refine wpAnyH_take (i := 29) (v := ?_) rfl (by kernel_rfl) (by kernel_rfl) (by kernel_rfl) (fun _ _ _ h => h) (Or.inl ⟨by rfl, ?_⟩) (by assumption) ?_
            rotate_left
            · intro w0 hSw
              (try dsimp only at hSw)
              go_simp
              try with_reducible rfl
            try simp only [Act.put, List.getElem_toArray, List.getElem_cons_zero, List.getElem_cons_succ, List.setIfInBounds_toArray, List.set_cons_zero, List.set_cons_succ]
            refine wpAnyH_take (i := 30) (v := ?_) rfl (by kernel_rfl) (by kernel_rfl) (by kernel_rfl) (fun _ _ _ h => h) (Or.inl ⟨by rfl, ?_⟩) (by assumption) ?_
            rotate_left
            · intro w0 hSw
              (try dsimp only at hSw)
              go_simp
              try with_reducible rfl
            try simp only [Act.put, List.getElem_toArray, List.getElem_cons_zero, List.getElem_cons_succ, List.setIfInBounds_toArray, List.set_cons_zero, List.set_cons_succ]
            refine wpAnyH_ready (rs := [24]) (by kernel_rfl) (by simp) ?_
            refine AllReadyH.cons rfl (fun K hK => ?_) AllReadyH.nil
            go_simp
            go_at_call 15
            refine (mBytes_any p c _ _ _ WB.out.buf).mono ?_
            rintro e wC ⟨vC, rfl, oC, bC⟩
            rw [show (show SW CpM from SF).bs = BS from HBS.out.symm] at oC
            have BC := Lib.hid bC
            have cC0 := (bC.cell (p := ⟨R, 0, none⟩) RB.out.hd.lt).trans c0'
            have cC2 := (bC.cell (p := ⟨R, 2, none⟩) RB.out.hd.lt).trans c2'
            have cC3 := (bC.cell (p := ⟨R, 3, none⟩) RB.out.hd.lt).trans c3'
            have RC := Lib.hid (RDF.out.below bC)
            have cvC := conv_rd 26 9 Try.underlying26 Try.underlying9 RC.out
            have OC := Lib.hid oC.rd
            have cvV := conv_rd 26 9 Try.underlying26 Try.underlying9 OC.out
            clear oC bC
            go_wp2_with fail
            refine hK.out _ _ ?_ (fun hHeld => ?_)
            · try dsimp only
              exact ⟨cC0, cC2, cC3, cvC⟩
            clear hK K
            try simp only [Act.put, List.getElem_toArray, List.getElem_cons_zero, List.getElem_cons_succ, List.setIfInBounds_toArray, List.set_cons_zero, List.set_cons_succ]
            refine wpAnyH_more (S' := fun w' => (fun w' => w'.cell? ⟨R, 0, none⟩ = some (.slice (some ⟨bb, 0, none⟩) LB LB) ∧ w'.cell? ⟨R, 2, none⟩ = some (.int .i64 CK) ∧ w'.cell? ⟨R, 3, none⟩ = some tvB ∧ (convert 26 9 (.slice (some ⟨bb, 0, none⟩) LB LB)).run Try.prog w' = .ok (.string (strOfNums BS)) w') w' ∧ (convert 26 9 vC).run Try.prog w' = .ok (.string (strOfNums BS)) w') (fun w h => h.1) _ _ _ _ ?_
            have hHeld : (fun w' => (fun w' => w'.cell? ⟨R, 0, none⟩ = some (.slice (some ⟨bb, 0, none⟩) LB LB) ∧ w'.cell? ⟨R, 2, none⟩ = some (.int .i64 CK) ∧ w'.cell? ⟨R, 3, none⟩ = some tvB ∧ (convert 26 9 (.slice (some ⟨bb, 0, none⟩) LB LB)).run Try.prog w' = .ok (.string (strOfNums BS)) w') w' ∧ (convert 26 9 vC).run Try.prog w' = .ok (.string (strOfNums BS)) w') wC := ⟨⟨cC0, cC2, cC3, cvC⟩, cvV⟩
            refine wpAnyH_take (i := 25) (v := ?_) rfl (by kernel_rfl) (by kernel_rfl) (by kernel_rfl) (fun _ _ _ h => h) (Or.inl ⟨by rfl, ?_⟩) (by assumption) ?_
            rotate_left
            · intro w0 hSw
              (try dsimp only at hSw)
              go_simp
              try with_reducible rfl
            try simp only [Act.put, List.getElem_toArray, List.getElem_cons_zero, List.getElem_cons_succ, List.setIfInBounds_toArray, List.set_cons_zero, List.set_cons_succ]
            refine wpAnyH_take (i := 31) (v := ?_) rfl (by kernel_rfl) (by kernel_rfl) (by kernel_rfl) (fun _ _ _ h => h) (Or.inl ⟨by rfl, ?_⟩) (by assumption) ?_
            rotate_left
            · intro w0 hSw
              (try dsimp only at hSw)
              go_simp
              try with_reducible rfl
            try simp only [Act.put, List.getElem_toArray, List.getElem_cons_zero, List.getElem_cons_succ, List.setIfInBounds_toArray, List.set_cons_zero, List.set_cons_succ]
            refine wpAnyH_take (i := 32) (v := ?_) rfl (by kernel_rfl) (by kernel_rfl) (by kernel_rfl) (fun _ _ _ h => h) (Or.inl ⟨by rfl, ?_⟩) (by assumption) ?_
            rotate_left
            · intro w0 hSw
              (try dsimp only at hSw)
              go_simp
              try with_reducible rfl
            try simp only [Act.put, List.getElem_toArray, List.getElem_cons_zero, List.getElem_cons_succ, List.setIfInBounds_toArray, List.set_cons_zero, List.set_cons_succ]
            refine wpAnyH_take (i := 33) (v := ?_) rfl (by kernel_rfl) (by kernel_rfl) (by kernel_rfl) (fun _ _ _ h => h) (Or.inl ⟨by rfl, ?_⟩) (by assumption) ?_
            rotate_left
            · intro w0 hSw
              (try dsimp only at hSw)
              go_simp
              try with_reducible rfl
            try simp only [Act.put, List.getElem_toArray, List.getElem_cons_zero, List.getElem_cons_succ, List.setIfInBounds_toArray, List.set_cons_zero, List.set_cons_succ]
            refine wpAnyH_take (i := 34) (v := ?_) rfl (by kernel_rfl) (by kernel_rfl) (by kernel_rfl) (fun _ _ _ h => h) (Or.inl ⟨by rfl, ?_⟩) (by assumption) ?_
            rotate_left
            · intro w0 hSw
              (try dsimp only at hSw)
              go_simp
              try with_reducible rfl
            try simp only [Act.put, List.getElem_toArray, List.getElem_cons_zero, List.getElem_cons_succ, List.setIfInBounds_toArray, List.set_cons_zero, List.set_cons_succ]
            refine wpAnyH_take (i := 36) (v := ?_) rfl (by kernel_rfl) (by kernel_rfl) (by kernel_rfl) (fun _ _ _ h => h) (Or.inl ⟨by rfl, ?_⟩) (by assumption) ?_
            rotate_left
            · intro w0 hSw
              (try dsimp only at hSw)
              go_simp
              try with_reducible rfl
            try simp only [Act.put, List.getElem_toArray, List.getElem_cons_zero, List.getElem_cons_succ, List.setIfInBounds_toArray, List.set_cons_zero, List.set_cons_succ]
            refine wpAnyH_take (i := 37) (v := ?_) rfl (by kernel_rfl) (by kernel_rfl) (by kernel_rfl) (fun _ _ _ h => h) (Or.inl ⟨by rfl, ?_⟩) (by assumption) ?_
            rotate_left
            · intro w0 hSw
              (try dsimp only at hSw)
              go_simp
              try with_reducible rfl
            try simp only [Act.put, List.getElem_toArray, List.getElem_cons_zero, List.getElem_cons_succ, List.setIfInBounds_toArray, List.set_cons_zero, List.set_cons_succ]
            refine wpAnyH_take (i := 38) (v := ?_) rfl (by kernel_rfl) (by kernel_rfl) (by kernel_rfl) (fun _ _ _ h => h) (Or.inl ⟨by rfl, ?_⟩) (by assumption) ?_
            rotate_left
            · intro w0 hSw
              (try dsimp only at hSw)
              go_simp
              try with_reducible rfl
            try simp only [Act.put, List.getElem_toArray, List.getElem_cons_zero, List.getElem_cons_succ, List.setIfInBounds_toArray, List.set_cons_zero, List.set_cons_succ]
            refine wpAnyH_take (i := 39) (v := ?_) rfl (by kernel_rfl) (by kernel_rfl) (by kernel_rfl) (fun _ _ _ h => h) (Or.inl ⟨by rfl, ?_⟩) (by assumption) ?_
            rotate_left
            · intro w0 hSw
              (try dsimp only at hSw)
              go_simp
              try with_reducible rfl
            try simp only [Act.put, List.getElem_toArray, List.getElem_cons_zero, List.getElem_cons_succ, List.setIfInBounds_toArray, List.set_cons_zero, List.set_cons_succ]
            refine wpAnyH_ready (rs := [35]) (by kernel_rfl) (by simp) ?_
            refine AllReadyH.cons rfl (fun K hK => ?_) AllReadyH.nil
            go_simp
            go_at_call 16
            refine (wTrace_any (C := cpFam) (WB.out.below BC.out) FTR.out FEW.out).mono ?_
            rintro e wD ⟨vD, rfl, he6, bD⟩
            have ED := Lib.hid he6.ev
            have BD := Lib.hid bD
            have zC := BC.out.size
            have hRC : R < wC.heap.size := by have := RB.out.hd.lt; omega
            have cD0 := (bD.cell (p := ⟨R, 0, none⟩) hRC).trans cC0
            have cD2 := (bD.cell (p := ⟨R, 2, none⟩) hRC).trans cC2
            have cD3 := (bD.cell (p := ⟨R, 3, none⟩) hRC).trans cC3
            have RD := Lib.hid (RC.out.below bD)
            have cvD := conv_rd 26 9 Try.underlying26 Try.underlying9 RD.out
            have OD := Lib.hid (OC.out.below bD)
            have cvW := conv_rd 26 9 Try.underlying26 Try.underlying9 OD.out
            have hRD : R < wD.heap.size := by have := bD.size; omega
            clear he6 bD
            go_wp2_with fail
            refine hK.out _ _ ?_ (fun hHeld => ?_)
            · try dsimp only
              exact ⟨⟨cD0, cD2, cD3, cvD⟩, cvW⟩
            clear hK K
            try simp only [Act.put, List.getElem_toArray, List.getElem_cons_zero, List.getElem_cons_succ, List.setIfInBounds_toArray, List.set_cons_zero, List.set_cons_succ]
            refine wpAnyH_ready (rs := [40]) (by kernel_rfl) (by simp) ?_
            refine AllReadyH.cons rfl (fun K hK => ?_) AllReadyH.nil
            go_simp
            go_at_call 11
            refine (same06_rd FTR.out ED.out ((RB.out.evRd.below BC.out).below BD.out)).mono ?_
            rintro e wE ⟨rfl, bE⟩
            have BE := Lib.hid bE
            have cE0 := (bE.cell (p := ⟨R, 0, none⟩) hRD).trans cD0
            have cE2 := (bE.cell (p := ⟨R, 2, none⟩) hRD).trans cD2
            have cE3 := (bE.cell (p := ⟨R, 3, none⟩) hRD).trans cD3
            have RE := Lib.hid (RD.out.below bE)
            have cvE := conv_rd 26 9 Try.underlying26 Try.underlying9 RE.out
            have OE := Lib.hid (OD.out.below bE)
            have cvX := conv_rd 26 9 Try.underlying26 Try.underlying9 OE.out
            clear bE
            go_wp2_with fail
            refine hK.out _ _ ?_ (fun hHeld => ?_)
            · try dsimp only
              exact ⟨⟨cE0, cE2, cE3, cvE⟩, cvX⟩
            clear hK K
            try simp only [Act.put, List.getElem_toArray, List.getElem_cons_zero, List.getElem_cons_succ, List.setIfInBounds_toArray, List.set_cons_zero, List.set_cons_succ]
            refine wpAnyH_take (i := 41) (v := ?_) rfl (by kernel_rfl) (by kernel_rfl) (by kernel_rfl) (fun _ _ _ h => h) (Or.inl ⟨by rfl, ?_⟩) (by assumption) ?_
            rotate_left
            · intro w0 hSw
              (try dsimp only at hSw)
              go_simp
              try with_reducible rfl
            try simp only [Act.put, List.getElem_toArray, List.getElem_cons_zero, List.getElem_cons_succ, List.setIfInBounds_toArray, List.set_cons_zero, List.set_cons_succ]
            refine wpAnyH_take (i := 42) (v := ?_) rfl (by kernel_rfl) (by kernel_rfl) (by kernel_rfl) (fun _ _ _ h => h) (Or.inl ⟨by rfl, ?_⟩) (by assumption) ?_
            rotate_left
            · intro w0 hSw
              (try dsimp only at hSw)
              go_simp
              try with_reducible rfl
            try simp only [Act.put, List.getElem_toArray, List.getElem_cons_zero, List.getElem_cons_succ, List.setIfInBounds_toArray, List.set_cons_zero, List.set_cons_succ]
            refine wpAnyH_done (by kernel_rfl) ?_ _
            have BEE := Lib.hid (BC.out.trans ((BD.out.mono BC.out.size).trans (BE.out.mono (by have := BC.out.size; have := BD.out.size; omega))))
            clear c0' c1' c2' c3' cvF cC0 cC2 cC3 cvC cvV cD0 cD2 cD3 cvD cvW cE0 cE2 cE3 cvE cvX hRC hRD zC
            have RBE := Lib.hid (RB.out.below BEE.out)
            have WBE := Lib.hid (WB.out.below BEE.out)
            have BWE := Lib.hid (BWB.out.trans (BEE.out.mono BWB.out.size))
            obtain ⟨ra', rc', ejv, _⟩ := RBE.out.jvSl
            have hrl : rl = JB.length := by cases ejv; rfl
            have HRL := Lib.hid hrl
            have hrl6 : rl ≤ 6 := by have h1 := NBB.out; have h2 := JS6.out; omega
            have c1E := RBE.out.cells.2.1
            clear ejv hrl
            go_wp2_with fail
            go_loopw [140] (fun i wr => ∃ k2 : Nat, k2 ≤ rl ∧ i = .int .i64 k2 ∧ Below wE.heap.size wE wr) (fun i _ => rl - (intOf i).toNat)
            case atStart => exact ⟨0, by omega, rfl, Below.refl _ _⟩
            case round =>
              obtain ⟨k2, hk2, rfl, hB2⟩ := hrel
              have HB2' := Lib.hid hB2
              have zE := hB2.size
              clear c1E hB2
              by_cases hlt2 : k2 < rl
              · obtain ⟨j, hj⟩ : ∃ j, JB[k2]? = some j := ⟨_, List.getElem?_eq_getElem (by rw [← HRL.out]; exact hlt2)⟩
                have RX := Lib.hid (RBE.out.below HB2'.out)
                obtain ⟨ga, cap, ejv, _, _, _, gl, hcell, _⟩ := RX.out.job hj
                have eg : ra = some ⟨ga, 0, none⟩ := by cases ejv; rfl
                subst eg
                have DEAD := Lib.hid (ro_dead RBE.out hj)
                have ENDD := Lib.hid (ro_ended RBE.out hj)
                have JIN := Lib.hid (RX.out.jobs j (List.mem_of_getElem? hj))
                have JTL := Lib.hid (LBB.out j (List.mem_of_getElem? hj))
                have JOK := Lib.hid (JIN.out.ok (by have := JTL.out; omega))
                obtain ⟨mm, hmm⟩ : ∃ m, m = j.mac := ⟨_, rfl⟩
                have HMM := Lib.hid hmm
                unfold JbS.cs at hcell
                clear ejv hmm hj
                obtain ⟨jk, jA, jn, js, jb, jt, jT, jd⟩ := j
                dsimp only at hcell
                obtain ⟨sa, sl', sc', hs⟩ := JIN.out.s
                obtain ⟨ta, tn, ht⟩ := rdA_slice (show RdA wr jt jT from JIN.out.an.rdA)
                dsimp only at hs
                subst hs ht
                have d0 : wr.cell? ⟨ga, k2 * 6, none⟩ = some (.int .i64 jk) := hcell 0 _ rfl
                have d1 : wr.cell? ⟨ga, k2 * 6 + 1, none⟩ = some (.int .i64 jA) := hcell 1 _ rfl
                have d2 : wr.cell? ⟨ga, k2 * 6 + 2, none⟩ = some (.int .i64 jn) := hcell 2 _ rfl
                have d3 : wr.cell? ⟨ga, k2 * 6 + 3, none⟩ = some (.slice sa sl' sc') := hcell 3 _ rfl
                have d4 : wr.cell? ⟨ga, k2 * 6 + 4, none⟩ = some (.slice ta jT.length tn) := hcell 4 _ rfl
                have d5 : wr.cell? ⟨ga, k2 * 6 + 5, none⟩ = some (.bool jd) := hcell 5 _ rfl
                obtain ⟨w3x, hw3x⟩ : ∃ w3x, w3x = wr.alloc (.cells #[.int .i64 jk, .int .i64 jA, .int .i64 jn, .slice sa sl' sc', .slice ta jT.length tn, .bool jd] 61) := ⟨_, rfl⟩
                have b3x : Below wr.heap.size wr w3x := by rw [hw3x]; exact (Below.refl _ _).alloc (Nat.le_refl _) _
                have CP := Lib.hid (show Blk w3x wr.heap.size [.int .i64 jk, .int .i64 jA, .int .i64 jn, .slice sa sl' sc', .slice ta jT.length tn, .bool jd] by rw [hw3x]; exact Blk.made wr _ _)
                have J3 := Lib.hid (JOK.out.below b3x)
                have B3X := Lib.hid b3x
                clear hcell b3x
                go_upto_region 27 with fail
                rw [← hw3x]
                clear hw3x d0 d1 d2 d3 d4 d5
                obtain ⟨e0, e1, e2, e3, e4, e5⟩ := CP.out.c6
                have cplt := CP.out.lt
                go_wp2_with fail
                refine (jNext_any ⟨jk, jA, jn, .slice sa sl' sc', jb, .slice ta jT.length tn, jT, jd⟩ w3x J3.out).mono ?_
                rintro e w5 ⟨n0', nl', nc', rfl, _, b5, _⟩
                rw [← HMM.out]
                obtain ⟨xw, hxw⟩ : ∃ x, x = mm.want := ⟨_, rfl⟩
                rw [← hxw]
                clear hxw
                unfold AA.V
                obtain ⟨lv, hlv⟩ : ∃ l, l = mm.live := ⟨_, rfl⟩
                rw [← hlv]
                have HLV := Lib.hid hlv
                obtain ⟨w6, hw6⟩ : ∃ w6, w6 = w5.alloc (.cells #[.int .i64 xw.k, .int .i64 xw.a, .int .i64 xw.n, .int .u64 xw.v, .int .u64 xw.x, .slice n0' nl' nc'] 47) := ⟨_, rfl⟩
                have b6 : Below w5.heap.size w5 w6 := by rw [hw6]; exact (Below.refl _ _).alloc (Nat.le_refl _) _
                have B56 := Lib.hid (show Below w3x.heap.size w3x w6 from b5.trans (b6.mono b5.size))
                have BE6 := Lib.hid (show Below wE.heap.size wE w6 from HB2'.out.trans ((B3X.out.trans (B56.out.mono B3X.out.size)).mono zE))
                have CP6 := Lib.hid (CP.out.below B56.out cplt)
                have f5 := (CP6.out.c6).2.2.2.2.2
                have hjd : (jd != jd) = false := by simp
                have hll : ((!lv) == lv) = false := by simp
                clear e0 e1 e2 e3 e4 e5 cplt b5 b6 hlv
                go_upto_region 28 with fail
                rw [← hw6]
                clear hw6
                refine wp_region_held_drew (S := fun w' => w'.cell? ⟨wr.heap.size, 5, none⟩ = some (.bool jd)) (by kernel_rfl) ?_ (fun hHeld => ?_)
                · try dsimp only
                  exact f5
                refine wpAnyH_take (i := 0) (v := ?_) rfl (by kernel_rfl) (by kernel_rfl) (by kernel_rfl) (fun _ _ _ h => h) (Or.inl ⟨by rfl, ?_⟩) (by assumption) ?_
                rotate_left
                · intro w0 hSw
                  (try dsimp only at hSw)
                  go_simp
                  try with_reducible rfl
                try simp only [Act.put, List.getElem_toArray, List.getElem_cons_zero, List.getElem_cons_succ, List.setIfInBounds_toArray, List.set_cons_zero, List.set_cons_succ]
                refine wpAnyH_take (i := 1) (v := ?_) rfl (by kernel_rfl) (by kernel_rfl) (by kernel_rfl) (fun _ _ _ h => h) (Or.inl ⟨by rfl, ?_⟩) (by assumption) ?_
                rotate_left
                · intro w0 hSw
                  (try dsimp only at hSw)
                  go_simp
                  try with_reducible rfl
                try simp only [Act.put, List.getElem_toArray, List.getElem_cons_zero, List.getElem_cons_succ, List.setIfInBounds_toArray, List.set_cons_zero, List.set_cons_succ]
                refine wpAnyH_take (i := 3) (v := ?_) rfl (by kernel_rfl) (by kernel_rfl) (by kernel_rfl) (fun _ _ _ h => h) (Or.inl ⟨by rfl, ?_⟩) (by assumption) ?_
                rotate_left
                · intro w0 hSw
                  (try dsimp only at hSw)
                  go_simp
                  try with_reducible rfl
                try simp only [Act.put, List.getElem_toArray, List.getElem_cons_zero, List.getElem_cons_succ, List.setIfInBounds_toArray, List.set_cons_zero, List.set_cons_succ]
                refine wpAnyH_take (i := 4) (v := ?_) rfl (by kernel_rfl) (by kernel_rfl) (by kernel_rfl) (fun _ _ _ h => h) (Or.inl ⟨by rfl, ?_⟩) (by assumption) ?_
                rotate_left
                · intro w0 hSw
                  (try dsimp only at hSw)
                  go_simp
                  try with_reducible rfl
                try simp only [Act.put, List.getElem_toArray, List.getElem_cons_zero, List.getElem_cons_succ, List.setIfInBounds_toArray, List.set_cons_zero, List.set_cons_succ]
                refine wpAnyH_ready (rs := [2]) (by kernel_rfl) (by simp) ?_
                refine AllReadyH.cons rfl (fun K hK => ?_) AllReadyH.nil
                go_simp
                go_at_call 18
                refine (wDead_any (C := cpFam) ((WBE.out.below BE6.out).below (show Below w6.heap.size w6 w6.drew from bel_drewN 1 (Below.refl _ _))) k2).mono ?_
                rintro e w7 ⟨rfl, rfl⟩
                rw [show @SW.dead cpFam.M.σ SF k2 = jd from DEAD.out]
                go_wp2_with fail
                refine hK.out _ _ ?_ (fun hHeld => ?_)
                · try dsimp only
                  exact f5
                clear hK K
                try simp only [Act.put, List.getElem_toArray, List.getElem_cons_zero, List.getElem_cons_succ, List.setIfInBounds_toArray, List.set_cons_zero, List.set_cons_succ]
                refine wpAnyH_take (i := 5) (v := ?_) rfl (by kernel_rfl) (by kernel_rfl) (by kernel_rfl) (fun _ _ _ h => h) (Or.inl ⟨by rfl, ?_⟩) (by assumption) ?_
                rotate_left
                · intro w0 hSw
                  (try dsimp only at hSw)
                  go_simp
                  try with_reducible rfl
                try simp only [Act.put, List.getElem_toArray, List.getElem_cons_zero, List.getElem_cons_succ, List.setIfInBounds_toArray, List.set_cons_zero, List.set_cons_succ]
                refine wpAnyH_take (i := 6) (v := ?_) rfl (by kernel_rfl) (by kernel_rfl) (by kernel_rfl) (fun _ _ _ h => h) (Or.inl ⟨by rfl, ?_⟩) (by assumption) ?_
                rotate_left
                · intro w0 hSw
                  (try dsimp only at hSw)
                  go_simp
                  try with_reducible rfl
                try simp only [Act.put, List.getElem_toArray, List.getElem_cons_zero, List.getElem_cons_succ, List.setIfInBounds_toArray, List.set_cons_zero, List.set_cons_succ]
                refine wpAnyH_take (i := 7) (v := ?_) rfl (by kernel_rfl) (by kernel_rfl) (by kernel_rfl) (fun _ _ _ h => h) (Or.inl ⟨by rfl, ?_⟩) (by assumption) ?_
                rotate_left
                · intro w0 hSw
                  (try dsimp only at hSw)
                  go_simp
                  try with_reducible rfl
                try simp only [Act.put, List.getElem_toArray, List.getElem_cons_zero, List.getElem_cons_succ, List.setIfInBounds_toArray, List.set_cons_zero, List.set_cons_succ]
                refine wpAnyH_take (i := 8) (v := ?_) rfl (by kernel_rfl) (by kernel_rfl) (by kernel_rfl) (fun _ _ _ h => h) (Or.inl ⟨by rfl, ?_⟩) (by assumption) ?_
                rotate_left
                · intro w0 hSw
                  (try dsimp only at hSw)
                  go_simp
                  try with_reducible rfl
                try simp only [Act.put, List.getElem_toArray, List.getElem_cons_zero, List.getElem_cons_succ, List.setIfInBounds_toArray, List.set_cons_zero, List.set_cons_succ]
                refine wpAnyH_take (i := 10) (v := ?_) rfl (by kernel_rfl) (by kernel_rfl) (by kernel_rfl) (fun _ _ _ h => h) (Or.inl ⟨by rfl, ?_⟩) (by assumption) ?_
                rotate_left
                · intro w0 hSw
                  (try dsimp only at hSw)
                  go_simp
                  try with_reducible rfl
                try simp only [Act.put, List.getElem_toArray, List.getElem_cons_zero, List.getElem_cons_succ, List.setIfInBounds_toArray, List.set_cons_zero, List.set_cons_succ]
                refine wpAnyH_ready (rs := [9]) (by kernel_rfl) (by simp) ?_
                refine AllReadyH.cons rfl (fun K hK => ?_) AllReadyH.nil
                go_simp
                go_at_call 19
                refine (wEnded_any (C := cpFam) ((WBE.out.below BE6.out).below (show Below w6.heap.size w6 w6.drew from bel_drewN 1 (Below.refl _ _))) k2).mono ?_
                rintro e w8 ⟨rfl, b8⟩
                rw [show cpFam.M.ended SF k2 = !lv from ENDD.out.trans (by rw [HLV.out, HMM.out])]
                have f8 := (b8.cell (p := ⟨wr.heap.size, 5, none⟩) CP6.out.lt).trans f5
                go_wp2_with fail
                refine hK.out _ _ ?_ (fun hHeld => ?_)
                · try dsimp only
                  exact f8
                clear hK K
                try simp only [Act.put, List.getElem_toArray, List.getElem_cons_zero, List.getElem_cons_succ, List.setIfInBounds_toArray, List.set_cons_zero, List.set_cons_succ]
                refine wpAnyH_take (i := 11) (v := ?_) rfl (by kernel_rfl) (by kernel_rfl) (by kernel_rfl) (fun _ _ _ h => h) (Or.inl ⟨by rfl, ?_⟩) (by assumption) ?_
                rotate_left
                · intro w0 hSw
                  (try dsimp only at hSw)
                  go_simp
                  try with_reducible rfl
                try simp only [Act.put, List.getElem_toArray, List.getElem_cons_zero, List.getElem_cons_succ, List.setIfInBounds_toArray, List.set_cons_zero, List.set_cons_succ]
                refine wpAnyH_take (i := 12) (v := ?_) rfl (by kernel_rfl) (by kernel_rfl) (by kernel_rfl) (fun _ _ _ h => h) (Or.inl ⟨by rfl, ?_⟩) (by assumption) ?_
                rotate_left
                · intro w0 hSw
                  (try dsimp only at hSw)
                  go_simp
                  try with_reducible rfl
                try simp only [Act.put, List.getElem_toArray, List.getElem_cons_zero, List.getElem_cons_succ, List.setIfInBounds_toArray, List.set_cons_zero, List.set_cons_succ]
                refine wpAnyH_done (by kernel_rfl) ?_ _
                have BF := Lib.hid (show Below wE.heap.size wE w8 from BE6.out.trans ((show Below w6.heap.size w6 w8 from (show Below w6.heap.size w6 w6.drew from bel_drewN 1 (Below.refl _ _)).trans b8).mono BE6.out.size))
                clear b8 f5
                go_wp2
                exact ⟨⟨k2 + 1, by omega, by go_num, BF.out⟩, by simp [intOf]; omega⟩
              · obtain rfl : k2 = rl := by omega
                go_wp2
                go_ret
                exact ⟨rfl, BWE.out.trans (HB2'.out.mono BWE.out.size)⟩
theorem u8_bdJ {a : Int} (h : (Lit.int .u8 a).wf = true) : 0 ≤ a ∧ a ≤ 255 := by
  simpa [Lit.wf, IntKind.min, IntKind.max, IntKind.signed, IntKind.bits] using h
theorem plays_said' (v0 : Value) (Js : List JobV) (v1 : Value) (Ps : List PickV) (m : Int) (wm : (Lit.int .u8 m).wf = true) (w : World) (r0 : RdR w v0 4 (Js.map JobV.cs)) (j0 : ∀ j ∈ Js, JobV.Ok w j) (r1 : RdR w v1 3 (Ps.map PickV.cs)) (p1 : ∀ q ∈ Ps, PickV.Ok q) :
    Calls Try.prog 3 #[v0, v1, .int .u8 m] w fun e w' => e = .returned (.bool true) ∧ Below w.heap.size w w' := plays_said v0 Js v1 Ps m (u8_bdJ wm) w r0 j0 r1 p1
end Go.Proofs.Ytknahaaefmlcpaa
