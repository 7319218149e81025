/- The walk of SchedSilence. Conditions: as the frame gives them. For every input SchedSilence returns true, and every argument reads behind the call as it read before. Conditions: none. -/
import Derived.Test.YthaglmlkillhdaaSr
import Derived.Test.YthaglmlkillhdaaRows
import Derived.Test.YthaglmlkillhdaaOj
import Derived.Test.YthaglmlkillhdaaOp
import Derived.ProofKit
import Derived.OpenShut
section
namespace Go.Proofs.Ythaglmlkillhdaa
set_option maxRecDepth 100000
open Go.RowKit
set_option linter.unusedVariables false
set_option linter.unusedSimpArgs false
theorem s0J_len (bs : List Int) (Js : List JobV) : (s0J bs Js).acts.length = Js.length := by simp [s0J]
/-- A pick of an actor that is dead does nothing. -/
theorem pick_dead (M : Mac) (S : SW M.σ) (a : Int) (h : S.dead a = true) : M.pick S 0 a 0 = (S, evZ, 11) := by
  unfold SW.dead SW.at at h
  split at h
  · cases h
  rename_i c hc
  split at hc
  · cases hc
  rename_i h0
  have e : M.act S 0 a = (S, (aaZ, anZ), 11) := by
    unfold Mac.act
    rw [if_neg h0, hc]
    simp only []
    rw [if_pos h]
  unfold Mac.pick
  simp only [e]
  simp
theorem pick_out (M : Mac) (S : SW M.σ) (a : Int) (h : a < 0 ∨ (S.acts.length : Int) ≤ a) : M.pick S 0 a 0 = (S, evZ, 2) := by
  have e : M.act S 0 a = (S, (aaZ, anZ), 2) := by
    unfold Mac.act
    by_cases h0 : a < 0
    · rw [if_pos h0]
    · rw [if_neg h0, List.getElem?_eq_none (by omega)]
  unfold Mac.pick
  simp only [e]
  simp
theorem silence_dead {σ : Type} (S : SW σ) (i : Int) (h0 : 0 ≤ i) (h1 : i < (S.acts.length : Int)) : (S.silence i).dead i = true := by
  obtain ⟨n, a, rfl, hn, ha, hat⟩ := SW.at_some (S := S) (i := i) (by omega)
  unfold SW.silence
  rw [hat]
  unfold SW.dead SW.at
  dsimp only
  rw [if_neg (by omega), Int.toNat_natCast, List.getElem?_set_self hn]
theorem silence_out {σ : Type} (S : SW σ) (i : Int) (h : i < 0 ∨ (S.acts.length : Int) ≤ i) : S.silence i = S := by
  unfold SW.silence
  rw [SW.at_none h]
theorem silence_same {σ : Type} (S : SW σ) (i : Int) : (S.silence i).tr = S.tr ∧ (S.silence i).cnt = S.cnt ∧ (S.silence i).clk = S.clk ∧ (S.silence i).acts.length = S.acts.length := by
  unfold SW.silence
  split
  · exact ⟨rfl, rfl, rfl, rfl⟩
  · exact ⟨rfl, rfl, rfl, by simp⟩
theorem silence_big (a0 : Option Addr) (n0 c0 : Nat) (a1 : Option Addr) (n1 c1 : Nat) (i : Int) (w : World) (h : 6 < n0 ∨ 120 < n1) :
    Calls Try.prog 7 #[.slice a0 n0 c0, .slice a1 n1 c1, .int .i64 i] w fun e w' => e = .returned (.bool true) ∧ Below w.heap.size w w' := by
  by_cases h0 : (6 : Int) < (n0 : Int)
  · clear h
    go_enter Try.func7, Try.ntmps7
    go_wp2_with fail
    refine (fixed06_any _).mono ?_
    rintro e w1 ⟨rfl, b1⟩
    go_wp2
    go_ret
    exact ⟨rfl, b1⟩
  · have h1 : (120 : Int) < (n1 : Int) := by omega
    clear h
    go_enter Try.func7, Try.ntmps7
    go_wp2_with fail
    refine (fixed06_any _).mono ?_
    rintro e w1 ⟨rfl, b1⟩
    go_wp2
    go_ret
    exact ⟨rfl, b1⟩
set_option maxHeartbeats 2000000 in
theorem silence_said (v0 : Value) (Js : List JobV) (v1 : Value) (Ps : List PickV) (i : Int) (w : World) (r0 : RdR w v0 4 (Js.map JobV.cs)) (j0 : ∀ j ∈ Js, JobV.Ok w j) (r1 : RdR w v1 3 (Ps.map PickV.cs)) (p1 : ∀ q ∈ Ps, PickV.Ok q) :
    Calls Try.prog 7 #[v0, v1, .int .i64 i] w fun e w' => e = .returned (.bool true) ∧ Below w.heap.size w w' := by
  obtain ⟨a0, c0, rfl⟩ := r0.sl
  obtain ⟨a1, c1, rfl⟩ := r1.sl
  rw [List.length_map] at r0 r1 ⊢
  rw [List.length_map]
  by_cases hbig : 6 < Js.length ∨ 120 < Ps.length
  · exact silence_big _ _ _ _ _ _ i w hbig
  have hg0 : ¬ (6 : Int) < (Js.length : Int) := by omega
  have hg1 : ¬ (120 : Int) < (Ps.length : Int) := by omega
  have R0 := Lib.hid r0
  have R1 := Lib.hid r1
  have J0 := Lib.hid j0
  have P1 := Lib.hid p1
  obtain ⟨n0, hn0⟩ : ∃ n, n = Js.length := ⟨_, rfl⟩
  obtain ⟨n1, hn1⟩ : ∃ n, n = Ps.length := ⟨_, rfl⟩
  rw [← hn0] at hg0 R0
  rw [← hn1] at hg1 R1
  rw [← hn0, ← hn1]
  have HN0 := Lib.hid hn0
  have HN1 := Lib.hid hn1
  have hle0 : n0 ≤ 6 := by omega
  have hle1 : n1 ≤ 120 := by omega
  clear r0 r1 j0 p1 hn0 hn1 hbig
  go_enter Try.func7, Try.ntmps7
  go_wp2_with fail
  refine (fixed06_any _).mono ?_
  rintro e w1 ⟨rfl, b1⟩
  have BW1 := Lib.hid b1
  clear b1
  go_wp2_with fail
  go_loopw [30] (fun i wr => ∃ k : Nat, k ≤ n0 ∧ i = .int .i64 k ∧ (∀ j J, j < k → Js[j]? = some J → J.b.length ≤ 60) ∧ Below w.heap.size w wr) (fun i _ => n0 - (intOf i).toNat)
  case atStart => exact ⟨0, by omega, rfl, (fun j J h => by omega), BW1.out⟩
  case round =>
    obtain ⟨k, hk, rfl, hsm, hB⟩ := hrel
    have HSM := Lib.hid hsm
    have HB := Lib.hid hB
    have zB := hB.size
    by_cases hlt : k < n0
    · obtain ⟨g, off, cap, e, _, _, hcell⟩ := R0.out.row (by rw [List.length_map]; have := HN0.out; omega)
      obtain ⟨J, hJk⟩ : ∃ J, Js[k]? = some J := ⟨_, List.getElem?_eq_getElem (by rw [← HN0.out]; exact hlt)⟩
      have hcs := hcell k J.cs (by rw [List.getElem?_map, hJk]; rfl)
      have hcw : ∀ j u, J.cs[j]? = some u → wr.cell? ⟨g, off + k * 4 + j, none⟩ = some u := fun j u hj => (hB.cell (p := ⟨g, off + k * 4 + j, none⟩) (World.block_lt_of_cell? w _ (hcs j u hj))).trans (hcs j u hj)
      obtain ⟨sa, sl, sc, hs⟩ := (J0.out J (List.mem_of_getElem? hJk)).s
      have hsl := rd_len (hs ▸ (J0.out J (List.mem_of_getElem? hJk)).r)
      obtain ⟨jk, ja, jn, js, jb⟩ := J
      dsimp only at hs hsl
      subst hs
      have d0 : wr.cell? ⟨g, off + k * 4, none⟩ = some (.int .u8 jk) := hcw 0 _ rfl
      have d1 : wr.cell? ⟨g, off + k * 4 + 1, none⟩ = some (.int .u16 ja) := hcw 1 _ rfl
      have d2 : wr.cell? ⟨g, off + k * 4 + 2, none⟩ = some (.int .u16 jn) := hcw 2 _ rfl
      have d3 : wr.cell? ⟨g, off + k * 4 + 3, none⟩ = some (.slice sa sl sc) := hcw 3 _ rfl
      have hgl : g < wr.heap.size := World.block_lt_of_cell? _ _ d0
      have ea : a0 = some ⟨g, off, none⟩ := by cases e; rfl
      subst ea
      have HSL := Lib.hid hsl
      have HJK := Lib.hid hJk
      clear e hcell hcs hcw hsm hB hsl hJk
      by_cases hb : (60 : Int) < (sl : Int)
      · go_wp2
        go_ret
        exact ⟨rfl, HB.out.alloc zB _⟩
      · go_wp2
        refine ⟨⟨k + 1, by omega, by go_num, ?_, HB.out.alloc zB _⟩, by simp [intOf]; omega⟩
        intro j J' hj hJ'
        by_cases hjk : j = k
        · subst hjk
          rw [HJK.out] at hJ'
          obtain rfl := Option.some.inj hJ'
          have := HSL.out
          dsimp only
          omega
        · exact HSM.out j J' (by omega) hJ'
    · obtain rfl : k = n0 := by omega
      have hb60 : ∀ j ∈ Js, j.b.length ≤ 60 := by
        intro j hj
        obtain ⟨i, hi, rfl⟩ := List.getElem_of_mem hj
        exact hsm i _ (by rw [HN0.out]; exact hi) (List.getElem?_eq_getElem hi)
      have HB60 := Lib.hid hb60
      clear hsm hB hb60 hlt
      go_wp2_with fail
      refine (mNew_lit6 256 32 _ (by decide) (by decide) (by decide)).mono ?_
      rintro e w2 ⟨p, c, rfl, hb2, hp, hc, b2⟩
      have HB2 := Lib.hid (show Buf w2 p c 0 (List.replicate 256 0) from hb2)
      have BW2 := Lib.hid (HB.out.trans (b2.mono zB))
      have z2 := b2.size
      clear hb2 b2
      go_wp2_with fail
      refine (made06_any (.slice a0 k c0) Js _ (R0.out.below BW2.out) (fun j hj => (J0.out j hj).below BW2.out) HB60.out (by have := HN0.out; omega)).mono ?_
      rintro e w3 ⟨ov, jv, κ, mv, jc, rfl, hM⟩
      obtain ⟨oa, ol, oc, rfl⟩ := own_isSl hM.oo
      obtain ⟨ra, rl, rc, rfl⟩ := own_isSl hM.jo
      have HM := Lib.hid hM
      have BW3 := Lib.hid (BW2.out.trans (hM.bel.mono BW2.out.size))
      have z3 := hM.bel.size
      clear hM
      go_wp2_with fail
      refine (new06 HM.out HB2.out (by have := HN0.out; omega)).mono ?_
      rintro e w4 ⟨W, κ4, av, ab, rfl, hW, hk4, hWs, b4⟩
      have HW := Lib.hid hW
      have BW4 := Lib.hid (BW3.out.trans (b4.mono BW3.out.size))
      have NK4 := Lib.hid (show ∀ i, κ4 i ≠ .no → w.heap.size ≤ i from new_nk HM.out (by omega) (by omega) (by omega) hk4)
      have z4 := b4.size
      clear hW b4 hk4
      have hvk : ∀ a n cc, Value.slice a1 n1 c1 = .slice (some a) n cc → 0 < n → κ4 a.block = .no := by
        intro a n cc e hn
        have hb := picks_blk R1.out a n cc e hn
        by_cases hk : κ4 a.block = .no
        · exact hk
        · have := NK4.out _ hk
          omega
      have HVK := Lib.hid hvk
      clear hvk
      go_wp2_with fail
      refine (wRun_any cpUntimed HW.out (R1.out.below BW4.out) HVK.out (by have := HN1.out; omega) (by show (0 : Int) ≤ 0; omega) (by show (0 : Int) ≤ 100000; omega) (by show (0 : Int) ≤ 0; omega) (by show (0 : Int) ≤ 1099511627776000; omega) (by show 0 ≤ 10000; omega)).mono ?_
      rintro e w5 ⟨ov, κ5, tv5, rfl, hR⟩
      obtain ⟨S5, hS5⟩ : ∃ s, s = (cpFam.M.run (s0J (List.replicate 256 0) Js) Ps).1 := ⟨_, rfl⟩
      have HWO := Lib.hid (show WoIn cpFam w5 κ5 W p c av tv5 ab S5 from hS5 ▸ hR.wo)
      have q0 : (0 : Int) ≤ S5.cnt := by rw [hS5]; exact hR.c0
      have q1 : S5.cnt ≤ 120 := by
        have h1 : _ ≤ (0 : Int) + (Ps.length : Int) := hR.c1
        rw [← hS5] at h1
        have := HN1.out
        omega
      have q2 : S5.tr.length ≤ 120 := by
        have h1 : _ ≤ 0 + Ps.length := hR.t
        rw [← hS5] at h1
        have := HN1.out
        omega
      have q3 : (0 : Int) ≤ S5.clk := by rw [hS5]; exact hR.k0
      have q4 : S5.clk ≤ 120 * 1099511627776 := by
        have h1 : _ ≤ (0 : Int) + (Ps.length : Int) * 1099511627776 := hR.k1
        rw [← hS5] at h1
        have := HN1.out
        omega
      have q5 : S5.acts.length = k := by
        rw [hS5]
        exact (hR.al.trans (s0J_len _ _)).trans HN0.out.symm
      have FEW := Lib.hid (show ∀ e ∈ S5.tr, e.few from hS5 ▸ hR.few (fun e h => by cases h))
      obtain ⟨bw5, nk5⟩ := step_bel BW4.out NK4.out hR.kp hR.old
      have BW5 := Lib.hid bw5
      have NK5 := Lib.hid nk5
      clear hR hS5 bw5 nk5
      go_wp2_with fail
      refine (wTrace_any HWO.out (by omega) FEW.out).mono ?_
      rintro e w6 ⟨v6, rfl, he6, b6⟩
      obtain ⟨ta6, tc6, rfl⟩ := he6.sl
      have HWO6 := Lib.hid (HWO.out.below b6)
      have BW6 := Lib.hid (BW5.out.trans (b6.mono BW5.out.size))
      clear he6 b6
      go_wp2_with fail
      refine (wSilence_any HWO6.out i).mono ?_
      rintro e w7 ⟨rfl, h7, kp7⟩
      obtain ⟨s1, s2, s3, s4⟩ := silence_same S5 i
      obtain ⟨bw7, _⟩ := step_bel BW6.out NK5.out kp7 (fun i _ => rfl)
      have H7 := Lib.hid h7
      have BW7 := Lib.hid bw7
      have S1 := Lib.hid s1
      clear h7 kp7 bw7 s1
      by_cases ht : 0 ≤ i ∧ i < (k : Int)
      · have hd : (S5.silence i).dead i = true := silence_dead S5 i ht.1 (by rw [q5]; exact ht.2)
        have hp := wPick_any cpUntimed H7.out 0 i 0 (by omega) (by omega) (by omega) (by omega) (by rw [S1.out]; omega)
        rw [show cpFam.M.pick (S5.silence i) 0 i 0 = (S5.silence i, evZ, 11) from pick_dead cpFam.M _ _ hd] at hp
        have HP := Lib.hid hp
        have HD := Lib.hid hd
        obtain ⟨ht0, ht1⟩ := ht
        clear hp hd s2 s3 s4
        go_wp2_with fail
        refine HP.out.mono ?_
        rintro e w8 ⟨s0, sl, sc, t0, tl, tc, rfl, _, _, κ8, tv8, h8, k8, _, kp8⟩
        obtain ⟨bw8, _⟩ := step_bel BW7.out NK5.out kp8 k8
        have H8 := Lib.hid (fun o => h8.below (Below.alloc (Below.refl w8.heap.size w8) (Nat.le_refl _) o))
        have BW8 := Lib.hid (fun o => bw8.alloc bw8.size o)
        clear h8 k8 kp8 bw8
        unfold evV evZ
        go_wp2_with fail
        refine (wDead_any (H8.out _) i).mono ?_
        rintro e w9 ⟨rfl, rfl⟩
        rw [show @SW.dead cpFam.M.σ (S5.silence i) i = true from HD.out]
        go_wp2_with fail
        refine (wTrace_any (H8.out _) (by rw [S1.out]; omega) (by rw [S1.out]; exact FEW.out)).mono ?_
        rintro e w9 ⟨v9, rfl, he9, b9⟩
        obtain ⟨ta9, tc9, rfl⟩ := he9.sl
        rw [S1.out]
        have BW9 := Lib.hid ((BW8.out _).trans (b9.mono (BW8.out _).size))
        clear he9 b9
        go_wp2
        go_ret
        exact ⟨rfl, BW9.out⟩
      · have ho : i < 0 ∨ (k : Int) ≤ i := by omega
        have hs : S5.silence i = S5 := silence_out S5 i (by rw [q5]; exact ho)
        have hd : S5.dead i = false := by
          unfold SW.dead
          rw [SW.at_none (by rw [q5]; exact ho)]
        have hp := wPick_any cpUntimed H7.out 0 i 0 (by omega) (by omega) (by omega) (by omega) (by rw [S1.out]; omega)
        rw [show cpFam.M.pick (S5.silence i) 0 i 0 = (S5.silence i, evZ, 2) from pick_out cpFam.M _ _ (by rw [s4, q5]; exact ho)] at hp
        have HP := Lib.hid hp
        have HD := Lib.hid hd
        have HS := Lib.hid hs
        clear hp hd s2 s3 s4 hs
        rcases Int.lt_or_le i 0 with hi0 | hi0
        · clear ho ht
          go_wp2_with fail
          refine HP.out.mono ?_
          rintro e w8 ⟨s0, sl, sc, t0, tl, tc, rfl, _, _, κ8, tv8, h8, k8, _, kp8⟩
          obtain ⟨bw8, _⟩ := step_bel BW7.out NK5.out kp8 k8
          have H8 := Lib.hid (fun o => h8.below (Below.alloc (Below.refl w8.heap.size w8) (Nat.le_refl _) o))
          have BW8 := Lib.hid (fun o => bw8.alloc bw8.size o)
          clear h8 k8 kp8 bw8
          unfold evV evZ
          go_wp2_with fail
          refine (wDead_any (H8.out _) i).mono ?_
          rintro e w9 ⟨rfl, rfl⟩
          rw [HS.out, show @SW.dead cpFam.M.σ S5 i = false from HD.out]
          go_wp2
          go_ret
          exact ⟨rfl, BW8.out _⟩
        · have hk0 : (k : Int) ≤ i := by omega
          clear ho ht
          go_wp2_with fail
          refine HP.out.mono ?_
          rintro e w8 ⟨s0, sl, sc, t0, tl, tc, rfl, _, _, κ8, tv8, h8, k8, _, kp8⟩
          obtain ⟨bw8, _⟩ := step_bel BW7.out NK5.out kp8 k8
          have H8 := Lib.hid (fun o => h8.below (Below.alloc (Below.refl w8.heap.size w8) (Nat.le_refl _) o))
          have BW8 := Lib.hid (fun o => bw8.alloc bw8.size o)
          clear h8 k8 kp8 bw8
          unfold evV evZ
          go_wp2_with fail
          refine (wDead_any (H8.out _) i).mono ?_
          rintro e w9 ⟨rfl, rfl⟩
          rw [HS.out, show @SW.dead cpFam.M.σ S5 i = false from HD.out]
          go_wp2
          go_ret
          exact ⟨rfl, BW8.out _⟩
theorem silence_said' (v0 : Value) (Js : List JobV) (v1 : Value) (Ps : List PickV) (i : Int) (_ : (Lit.int .i64 i).wf = true) (w : World) (r0 : RdR w v0 4 (Js.map JobV.cs)) (j0 : ∀ j ∈ Js, JobV.Ok w j) (r1 : RdR w v1 3 (Ps.map PickV.cs)) (p1 : ∀ q ∈ Ps, PickV.Ok q) :
    Calls Try.prog 7 #[v0, v1, .int .i64 i] w fun e w' => e = .returned (.bool true) ∧ Below w.heap.size w w' := silence_said v0 Js v1 Ps i w r0 j0 r1 p1
end Go.Proofs.Ythaglmlkillhdaa
end
section
namespace Go.Proofs.Ythaglmlkillhdaa.schedSilence
open Go.ChangeShapes Go.WideShapes Go.ChangeAt Go.RowKit
set_option linter.unusedVariables false
set_option maxRecDepth 100000
theorem own : ownKnob Try.prog.godebug = none := by kernel_rfl
theorem laidOut : laidOutB Try.prog = true := by kernel_rfl
theorem contract (H : Type) (enc : TypeId × Value → H) (W : World) (base : Nat) (args : Array Value) (ds gs : List (DataW H)) (before : List MemPlace)
    (hval : ∀ (j : Nat) t v, Try.f7.params[j]? = some t → args[j]? = some v → Value.okWide Try.prog W .any base t v)
    (hW : DataW.Whole enc Try.prog Try.f7.params.toList Rows.schedSilenceSpec.vars false W args.toList ds gs before) :
    Calls Try.prog 7 args W fun e W' => ∃ v, e = .returned v ∧ Rows.schedSilenceSpec.post enc Try.prog Try.f7 false true false false W args v W' := by
  have hW' := hW
  obtain ⟨p, q, hA0, hV, rfl, hfz, hnd⟩ := hW
  have hA : DataW.TrodAll enc Try.prog W 0 (fun _ => true) true Try.f7.params.toList args.toList ds p := hA0
  rw [Try.params7] at hA hval
  obtain ⟨v0, vs0, d0, ds0, p0, q0, hargs, rfl, rfl, h0, r0'⟩ := trodAll_cons hA
  obtain ⟨v1, vs1, d1, ds1, p1, q1, rfl, rfl, rfl, h1, r1'⟩ := trodAll_cons r0'
  obtain ⟨v2, vs2, d2, ds2, p2, q2, rfl, rfl, rfl, h2, r2'⟩ := trodAll_cons r1'
  obtain ⟨rfl, rfl, rfl⟩ := trodAll_nil r2'
  obtain rfl : args = #[v0, v1, v2] := by cases args; simp_all
  obtain ⟨rfl, rfl⟩ := trodVars_none hV
  have k0 := h0
  have lt0 : ∀ x ∈ p0, x.block < W.heap.size := by obtain ⟨m, hm⟩ := k0; exact DataW.trod_lt m _ _ _ hm
  have k1 := h1
  have lt1 : ∀ x ∈ p1, x.block < W.heap.size := by obtain ⟨m, hm⟩ := k1; exact DataW.trod_lt m _ _ _ hm
  have k2 := h2
  have lt2 : ∀ x ∈ p2, x.block < W.heap.size := by obtain ⟨m, hm⟩ := k2; exact DataW.trod_lt m _ _ _ hm
  obtain ⟨J0, rd0, jo0⟩ := open_jobs (hval 0 49 v0 rfl rfl) h0
  obtain ⟨P1, rd1, po1⟩ := open_picks (hval 1 50 v1 rfl rfl) h1
  obtain ⟨a2, rfl, rfl, rfl, w2⟩ := open_int Try.underlying3 (hval 2 3 v2 rfl rfl) h2
  clear hA0
  refine (silence_said' v0 J0 v1 P1 a2 w2 W rd0 jo0 rd1 po1).mono fun e W' ⟨he, bel⟩ => ?_
  subst he
  exact ⟨_, rfl, _, _, _, [], _, [], hW', trodAll_mk1 (shut_bool Try.underlying4 _), (trodAll_cons_mk (Below.trod laidOut (by kernel_rfl) (of_decide_eq_true (by kernel_rfl)) k0 bel lt0) (trodAll_cons_mk (Below.trod laidOut (by kernel_rfl) (of_decide_eq_true (by kernel_rfl)) k1 bel lt1) (trodAll_cons_mk (Below.trod laidOut (by kernel_rfl) (of_decide_eq_true (by kernel_rfl)) k2 bel lt2) trodAll_mk0))), rfl, bel.frame _, fun h => by cases h⟩
theorem lifted (os : Os) (started : os.Started) (H : Type) (enc : TypeId × Value → H) :
    ReturnsInHanded {} Try.checked os 7 .any (Rows.schedSilenceSpec.pre6 enc Try.prog Try.f7 Rows.schedSilenceRow.domain false) (Rows.schedSilenceSpec.post enc Try.prog Try.f7 false true false false) := by
  refine returnsInHanded_of_change (C := Try.checked) own started (by kernel_rfl) Try.func7
    (ChangeSpec.witness6 (enc := enc) (C := Try.checked) false ⟨#[], #[.slice none 0 0, .slice none 0 0, .int .i64 0], []⟩ 8 (by kernel_rfl) (by kernel_rfl) (by kernel_rfl) (by kernel_rfl)) ?_
  intro W base args ds gs before hval hW _ _
  exact contract H enc W base args ds gs before hval hW
theorem proved : Rows.SchedSilenceSaid :=
  OpenClaim.holds_of_wide 7 Try.f7 rfl rfl rfl rfl rfl rfl rfl ⟨rfl, rfl, rfl, rfl, rfl⟩ rfl rfl rfl rfl rfl (by kernel_rfl) Try.func7 (by kernel_rfl)
    (of_decide_eq_true (by kernel_rfl)) (by unfold Func.isWrapper; first | (rw [if_pos (by decide +kernel)]; kernel_rfl) | (rw [if_neg (by decide +kernel)]; exact ⟨rfl, rfl⟩))
    (fun os started H enc _ => lifted os started H enc)
#print axioms proved
end Go.Proofs.Ythaglmlkillhdaa.schedSilence
end
