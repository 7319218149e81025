/- ref06.World.Pick. Conditions: as it says. -/
import Derived.Test.YtknahaaefmlcpaaJb
import Derived.Test.YtknahaaefmlcpaaRh
import Derived.Deep.CutBlock
import Derived.Deep.CutRange
import Derived.Deep.RegionHeld3
namespace Go.Proofs.Ytknahaaefmlcpaa
set_option maxRecDepth 100000
open Go.RowKit
set_option linter.unusedVariables false
set_option linter.unusedSimpArgs false
/-- What Pick leaves. -/
def RpPost (w : World) (κ : Nat → Kd) (R bb : Nat) (jv : Value) (N n : Nat) (P : SW CpM × Ev × Int) (e : Ending) (w' : World) : Prop :=
  ∃ s0 sl sc t0 tl tc, e = .returned (.tuple #[evV P.2.1.pk P.2.1.pa P.2.1.pn P.2.1.c (.slice s0 sl sc) P.2.1.x (.slice t0 tl tc), .int .i64 P.2.2]) ∧ RdB w' (.slice s0 sl sc) P.2.1.c.b ∧ RdB w' (.slice t0 tl tc) P.2.1.x.b ∧
    ∃ κ' tv' J', RoIn w' κ' R bb jv tv' J' P.1 ∧ (∀ i, i < w.heap.size → κ' i = κ i) ∧ (∀ j ∈ J', j.T.length ≤ N + 1) ∧ J'.length = n ∧ Keep (fun i => κ i ≠ .no) w w'
/-- Where Pick stands behind its switch. -/
def RpMid (w : World) (κ : Nat → Kd) (R bb : Nat) (jv tv : Value) (N n : Nat) (S : SW CpM) (pk pa pn : Int) (P : SW CpM × Ev × Int) (wx : World) : Prop :=
  ∃ κ4 J4 S1 c x s0 sl sc t0 tl tc, P = ({ S1 with tr := S1.tr ++ [⟨pk, pa, pn, c, x⟩] }, ⟨pk, pa, pn, c, x⟩, 0) ∧ S1.tr = S.tr ∧ RoIn wx κ4 R bb jv tv J4 S1 ∧ (∀ i, i < w.heap.size → κ4 i = κ i) ∧ κ4 (w.heap.size + 1) = .no ∧ κ4 (w.heap.size + 1 + 1) = .no ∧
    Blk wx (w.heap.size + 1 + 1) (evC pk pa pn c (.slice s0 sl sc) x (.slice t0 tl tc)) ∧ Blk wx (w.heap.size + 1) [.int .i64 0, .int .i64 0, .int .i64 0, .int .i64 0, .int .i64 0, .int .i64 0, .int .u64 0, .int .u64 0, .slice none 0 0, .int .u64 0, .bool false, .slice none 0 0] ∧ RdB wx (.slice s0 sl sc) c.b ∧ RdB wx (.slice t0 tl tc) x.b ∧ (∀ i, (Value.slice s0 sl sc).ownBlock = some i ∨ (Value.slice t0 tl tc).ownBlock = some i → κ4 i = .tb) ∧
    (∀ j ∈ J4, j.T.length ≤ N + 1) ∧ J4.length = n ∧ Keep (fun i => κ i ≠ .no) w wx
theorem RoIn.jvSl {w : World} {κ : Nat → Kd} {R bb : Nat} {jv tv : Value} {J : List JbS} {S : SW CpM} (h : RoIn w κ R bb jv tv J S) : ∃ a cap, jv = .slice a J.length cap ∧ J.length ≤ maxLen := by
  rcases h.row.2 with ⟨rfl, h0⟩ | ⟨g, cap, cur, rfl, _, _, h1, h2, _⟩
  · exact ⟨none, 0, by rw [h0], by omega⟩
  · exact ⟨_, _, rfl, by omega⟩
theorem pick_bad (M : Mac) (S : SW M.σ) (k a n : Int) (h : (k = 2 ∧ (n < 0 ∨ 1099511627776 < n)) ∨ (¬ k = 2 ∧ ¬ (k = 0 ∨ k = 1))) : M.pick S k a n = (S, evZ, 1) := by
  unfold Mac.pick Mac.tick
  rcases h with ⟨h1, h2⟩ | ⟨h1, h2⟩
  · rw [if_pos h1, if_pos h2, if_neg (by simp)]
  · rw [if_neg h1, if_neg h2]
theorem pick_tick (M : Mac) (S : SW M.σ) (k a n : Int) (h : k = 2) (hn : ¬ (n < 0 ∨ 1099511627776 < n)) : M.pick S k a n = ({ S with clk := S.clk + n, tr := S.tr ++ [⟨k, a, n, aaZ, anZ⟩] }, ⟨k, a, n, aaZ, anZ⟩, 0) := by
  unfold Mac.pick Mac.tick
  rw [if_pos h, if_neg hn]
  rfl
theorem pick_range (M : Mac) (S : SW M.σ) (k a n : Int) (h2 : ¬ k = 2) (h : k = 0 ∨ k = 1) (hr : a < 0 ∨ (S.acts.length : Int) ≤ a) : M.pick S k a n = (S, evZ, 2) := by
  have ha : M.act S k a = (S, (aaZ, anZ), 2) := by
    unfold Mac.act
    by_cases h0 : a < 0
    · rw [if_pos h0]
    · rw [if_neg h0, List.getElem?_eq_none (by omega)]
  unfold Mac.pick
  rw [if_neg h2, if_pos h, ha, if_neg (by simp)]
theorem pick_dead (M : Mac) (S : SW M.σ) (k : Int) (a : Nat) (n : Int) (h2 : ¬ k = 2) (h : k = 0 ∨ k = 1) (c : Ac M.σ) (hc : S.acts[a]? = some c) (hd : c.dead = true) : M.pick S k a n = (S, evZ, 11) := by
  have ha : M.act S k a = (S, (aaZ, anZ), 11) := by
    unfold Mac.act
    rw [if_neg (by omega), Int.toNat_natCast, hc]
    dsimp only
    rw [if_pos hd]
  unfold Mac.pick
  rw [if_neg h2, if_pos h, ha, if_neg (by simp)]
theorem pick_kill (M : Mac) (S : SW M.σ) (k : Int) (a : Nat) (n : Int) (h2 : ¬ k = 2) (h : k = 1) (c : Ac M.σ) (hc : S.acts[a]? = some c) (hd : c.dead = false) : M.pick S k a n = ({ S with acts := S.acts.set a ⟨c.m, true⟩, tr := S.tr ++ [⟨k, a, n, aaZ, anZ⟩] }, ⟨k, a, n, aaZ, anZ⟩, 0) := by
  have ha : M.act S k a = ({ S with acts := S.acts.set a ⟨c.m, true⟩ }, (aaZ, anZ), 0) := by
    unfold Mac.act
    rw [if_neg (by omega), Int.toNat_natCast, hc]
    dsimp only
    rw [if_neg (by rw [hd]; nofun), if_pos h]
  unfold Mac.pick
  rw [if_neg h2, if_pos (.inr h), ha]
  rfl
theorem pick_step (M : Mac) (S : SW M.σ) (k : Int) (a : Nat) (n : Int) (h2 : ¬ k = 2) (h : k = 0) (s : M.σ) (hc : S.acts[a]? = some ⟨some s, false⟩) : M.pick S k a n =
    if M.live s = false then ({ S with tr := S.tr ++ [⟨k, a, n, aaZ, anZ⟩] }, ⟨k, a, n, aaZ, anZ⟩, 0)
    else if (M.want s).err S.bs.length = 0 then ({ S with bs := (M.want s).out S.bs, cnt := S.cnt + 1, acts := S.acts.set a ⟨some (M.step s ((M.want s).ans S.bs)), false⟩, tr := S.tr ++ [⟨k, a, n, M.want s, (M.want s).ans S.bs⟩] }, ⟨k, a, n, M.want s, (M.want s).ans S.bs⟩, 0)
    else ({ S with acts := S.acts.set a ⟨some s, true⟩ }, evZ, (M.want s).err S.bs.length) := by
  have ha : M.act S k a = M.stepA S a ⟨some s, false⟩ := by
    unfold Mac.act
    rw [if_neg (by omega), Int.toNat_natCast, hc]
    dsimp only
    rw [if_neg (by nofun), if_neg (by omega)]
  unfold Mac.pick
  rw [if_neg h2, if_pos (.inl h), ha]
  by_cases hl : M.live s = false
  · have hs : M.stepA S a ⟨some s, false⟩ = (S, (aaZ, anZ), 0) := by
      unfold Mac.stepA
      dsimp only
      rw [if_pos hl]
    rw [if_pos hl, hs]
    rfl
  · rw [if_neg hl]
    by_cases he : (M.want s).err S.bs.length = 0
    · have hs : M.stepA S a ⟨some s, false⟩ = ({ S with bs := (M.want s).out S.bs, cnt := S.cnt + 1, acts := S.acts.set a ⟨some (M.step s ((M.want s).ans S.bs)), false⟩ }, (M.want s, (M.want s).ans S.bs), 0) := by
        unfold Mac.stepA
        dsimp only
        rw [if_neg hl, if_pos he]
      rw [if_pos he, hs]
      rfl
    · have hs : M.stepA S a ⟨some s, false⟩ = ({ S with acts := S.acts.set a ⟨some s, true⟩ }, (aaZ, anZ), (M.want s).err S.bs.length) := by
        unfold Mac.stepA
        dsimp only
        rw [if_neg hl, if_neg he]
      rw [if_neg he, hs]
      exact if_neg he
theorem AA.out_is {c : AA} {bs : List Int} (h : IsB bs) (hw : IsB c.b) : IsB (c.out bs) := by
  unfold AA.out doB
  split
  · exact spl_is h (leB_is _ _)
  split
  · exact spl_is h (leB_is _ _)
  split
  · split
    · exact spl_is h (leB_is _ _)
    · exact h
  split
  · exact spl_is h hw
  · exact h
theorem CpM.Fine.wf {m : CpM} (h : m.Fine) : m.want.wf := by
  refine ⟨?_, ?_, Int.le_refl 0, (by show (0 : Int) ≤ _; omega), Int.le_refl 0, (by show (0 : Int) ≤ _; omega)⟩
  · show IsB m.ab
    unfold CpM.ab
    split
    · exact h.lb.take 8
    · exact IsB.nil
  · show m.ab.length ≤ 1000000
    unfold CpM.ab
    split
    · simp
      omega
    · simp
theorem ansinfo : (Try.prog.info? 49).map (fun i => (i.zero, i.size, i.bytes)) = some (some (.agg #[.int .u64 0, .bool false, .slice none 0 0]), 3, 40) := by kernel_rfl
theorem anC_one {w : World} {P : Nat → Prop} {tv : Value} {T : List AnsV} (h : AnT w P tv T) : ∀ u ∈ T.flatMap anC, u.oneCell' = true := by
  intro u hu
  obtain ⟨x, hx, hu⟩ := List.mem_flatMap.1 hu
  obtain ⟨⟨a, n, c, e⟩, _⟩ := h.els x hx
  unfold anC at hu
  rw [e] at hu
  simp only [List.mem_cons, List.not_mem_nil, or_false] at hu
  rcases hu with rfl | rfl | rfl <;> rfl
/-- An append of a row of answers to none. -/
theorem wp_appA {w : World} {o : Oper} {a : Act} {K : Act → World → Prop} {Q : Exit → Act → World → Prop} (s x : Operand)
    (ho : o.op = .call { callee := .builtin .append, args := #[s, x], argTypes := #[59, 59] }) (v : Value) (hs : a.eval s = v) (hown : w.ownsRow 0 49 3 v 0 []) (tv : Value) (hx : a.eval x = tv) {P : Nat → Prop} {T : List AnsV} (hT : AnT w P tv T) (hn : T.length ≤ 100000)
    (h : ∀ v' w', w'.ownsRow 0 49 3 v' T.length (T.flatMap anC) → w.grownBy w' v.ownBlock → (v'.ownBlock = v.ownBlock ∨ v'.ownBlock = some w.heap.size) → K (a.put o.dst v') w') : o.wp Try.prog a w K Q := by
  obtain ⟨i0, hi, hz0, hz1, hz2⟩ := info_parts ansinfo
  have ones := anC_one hT
  have ho2 := hT.own
  rcases ho2.2 with ⟨rfl, h0⟩ | ⟨g, cap, cur, rfl, _⟩
  · have eT : T = [] := List.eq_nil_of_length_eq_zero h0
    subst eT
    have hr' := run_append_owned_none (P := Try.prog) w 0 59 o.type 49 i0 3 Try.underlying59 hi v 0 _ hown
    unfold Oper.wp execOp
    simp only [ho, resolve, invoke, builtin, Sem.run_bind, Sem.run_pure, Result.andThen_ok, List.map_toArray, List.map_cons, List.map_nil, hs, hx, List.length_nil, hr']
    exact h v w hown (World.grownBy.refl _ _) (.inl rfl)
  · have hnews : ∀ j u, (T.flatMap anC)[j]? = some u → w.cell? ((⟨g, 0, none⟩ : Addr).add j) = some u := World.ownsRow.cells ho2 rfl
    obtain ⟨v', w', hr, h2, h3, _, h5⟩ := run_append_own_at (P := Try.prog) w 0 59 o.type 49 i0 _ 3 40 Try.underlying59 hi hz0 hz1 hz2 rfl (by decide) v 0 [] hown ⟨g, 0, none⟩ T.length cap (T.flatMap anC) (anC_len T) hnews ones (by unfold maxLen; omega) (by omega) (Nat.zero_le _)
    unfold Oper.wp execOp
    simp only [ho, resolve, invoke, builtin, Sem.run_bind, Sem.run_pure, Result.andThen_ok, List.map_toArray, List.map_cons, List.map_nil, hs, hx, hr]
    exact h v' w' (by simpa using h2) h3 h5
theorem RoIn.recnt {w : World} {κ : Nat → Kd} {R bb : Nat} {jv tv : Value} {J : List JbS} {S : SW CpM} (h : RoIn w κ R bb jv tv J S) (n : Int) : RoIn w κ R bb jv tv J { S with cnt := n } :=
  ⟨h.hd, h.kR, h.by_, h.kb, h.isb, h.bl, h.row, h.kj, h.jobs, h.st, h.tr, h.all⟩
theorem rp_mid {w wc w9 : World} {κ κ5 : Nat → Kd} {R bb : Nat} {jv tv : Value} {N n : Nat} {S S1 : SW CpM} {pk pa pn : Int} {P : SW CpM × Ev × Int} {J5 : List JbS} {A : AA} {an : AN} {s0 t0 : Option Addr} {sl sc tl tc : Nat} (hP : P = ({ S1 with tr := S1.tr ++ [⟨pk, pa, pn, A, an⟩] }, ⟨pk, pa, pn, A, an⟩, 0)) (htr : S1.tr = S.tr) (h : RoIn wc κ5 R bb jv tv J5 S1) (hk : ∀ i, i < w.heap.size → κ5 i = κ i) (n1 : κ5 (w.heap.size + 1) = .no) (n2 : κ5 (w.heap.size + 1 + 1) = .no)
    (hr : Blk wc (w.heap.size + 1) [.int .i64 0, .int .i64 0, .int .i64 0, .int .i64 0, .int .i64 0, .int .i64 0, .int .u64 0, .int .u64 0, .slice none 0 0, .int .u64 0, .bool false, .slice none 0 0]) (r1 : RdB wc (.slice s0 sl sc) A.b) (r2 : RdB wc (.slice t0 tl tc) an.b) (kn : ∀ i, (Value.slice s0 sl sc).ownBlock = some i ∨ (Value.slice t0 tl tc).ownBlock = some i → κ5 i = .tb) (hl : ∀ j ∈ J5, j.T.length ≤ N + 1) (hn : J5.length = n) (kp : Keep (fun i => κ i ≠ .no) w wc)
    (k9 : Keep (· = w.heap.size + 1 + 1) wc w9) (hx : Blk w9 (w.heap.size + 1 + 1) (evC pk pa pn A (.slice s0 sl sc) an (.slice t0 tl tc))) : RpMid w κ R bb jv tv N n S pk pa pn P w9 := by
  have ne : ∀ i, κ5 i ≠ .no → ¬ i = w.heap.size + 1 + 1 := fun i hi e => hi (by rw [e]; exact n2)
  exact ⟨κ5, J5, S1, A, an, s0, sl, sc, t0, tl, tc, hP, htr, h.keep k9 ne, hk, n1, n2, hx, hr.keep k9 (by show ¬ w.heap.size + 1 = w.heap.size + 1 + 1; omega), r1.keep k9 (fun _ i hi => ne i (by rw [kn i (.inl hi)]; nofun)), r2.keep k9 (fun _ i hi => ne i (by rw [kn i (.inr hi)]; nofun)), kn, hl, hn, kp.then k9 (fun i hi e => by have e : i = w.heap.size + 1 + 1 := e; omega)⟩
/-- An early end. -/
theorem rp_early {w : World} {κ : Nat → Kd} {R bb : Nat} {jv tv : Value} {N : Nat} {J J' : List JbS} {S1 : SW CpM} {er : Int} {κ4 : Nat → Kd} {w4 w' : World} (h4 : RoIn w4 κ4 R bb jv tv J' S1) (hk : ∀ i, i < w.heap.size → κ4 i = κ i) (hn : κ4 (w.heap.size + 1) = .no) (hl : ∀ j ∈ J', j.T.length ≤ N + 1) (hj : J'.length = J.length) (kp : Keep (fun i => κ i ≠ .no) w w4) (k : Keep (· = w.heap.size + 1) w4 w') :
    RpPost w κ R bb jv N J.length (S1, evZ, er) (.returned (.tuple #[evV 0 0 0 aaZ (.slice none 0 0) anZ (.slice none 0 0), .int .i64 er])) w' :=
  ⟨none, 0, 0, none, 0, 0, rfl, .inl ⟨rfl, rfl⟩, .inl ⟨rfl, rfl⟩, κ4, tv, J', h4.keep k (fun i hi e => hi (by rw [show i = w.heap.size + 1 from e]; exact hn)), hk, hl, hj, kp.then k (fun i hi e => by have e : i = w.heap.size + 1 := e; omega)⟩
set_option maxHeartbeats 16000000 in
theorem rPick_rest {w : World} {κ : Nat → Kd} {R bb : Nat} {jv tv : Value} {J : List JbS} {S : SW CpM} (h : RoIn w κ R bb jv tv J S) (pk pa pn : Int) (N : Nat) (hN : N ≤ 99999) (hl : ∀ j ∈ J, j.T.length ≤ N) (hk0 : 0 ≤ S.clk) (hk1 : S.clk ≤ 4611686018427387904) (htr : S.tr.length ≤ 1000000) (hns : ¬ (pk = 0 ∧ ∃ (k : Nat) (j : JbS), pa = k ∧ J[k]? = some j ∧ j.d = false)) :
    Calls Try.prog 10 #[.pointer (some ⟨R, 0, none⟩), .agg #[.int .i64 pk, .int .i64 pa, .int .i64 pn]] w (RpPost w κ R bb jv N J.length (cpMac.pick S pk pa pn)) := by
  have H := Lib.hid h
  have HNS := Lib.hid hns
  clear hns
  have HL := Lib.hid hl
  have HJL := Lib.hid (show S.acts.length = J.length by rw [h.st, List.length_map])
  obtain ⟨P, hP⟩ : ∃ P, P = cpMac.pick S pk pa pn := ⟨_, rfl⟩
  rw [← hP]
  have HP := Lib.hid hP
  obtain ⟨w3, hw3, p3, r3, x3, z3, b3⟩ := box3 w pk pa pn
  have HW3 := Lib.hid hw3
  have H3 := Lib.hid (h.below b3)
  have PB := Lib.hid p3
  have RB := Lib.hid r3
  have XB := Lib.hid x3
  have B3 := Lib.hid b3
  have NB1 := Lib.hid (show κ (w.heap.size + 1) = .no from h.no_big (by omega))
  have NB2 := Lib.hid (show κ (w.heap.size + 1 + 1) = .no from h.no_big (by omega))
  have RL := Lib.hid h.hd.lt
  obtain ⟨ja, jcap, hjv, hjm⟩ := h.jvSl
  unfold maxLen at hjm
  subst hjv
  have nRx : R ≠ w.heap.size + 1 + 1 := by have := RL.out; omega
  have nRx' : w.heap.size + 1 + 1 ≠ R := fun e => nRx e.symm
  clear hP h p3 r3 x3 b3 hl hw3
  obtain ⟨q0, q1, q2⟩ : w3.cell? ⟨w.heap.size, 0, none⟩ = some (.int .i64 pk) ∧ w3.cell? ⟨w.heap.size, 1, none⟩ = some (.int .i64 pa) ∧ w3.cell? ⟨w.heap.size, 2, none⟩ = some (.int .i64 pn) := PB.out.c3
  have W1 := H3.out.cells.2.1
  have W2 := H3.out.cells.2.2.1
  have WF2 := H3.out.hd.frozen 2
  obtain ⟨f0, f1, f2, f3, f4, f5, f6, f7, f8, f9, f10, f11⟩ := RB.out.f12
  obtain ⟨g0, g1, g2, g3, g4, g5, g6, g7, g8, g9, g10, g11⟩ := RB.out.c12
  go_enter Try.func10, Try.ntmps10
  go_upto_block 0 with fail
  rw [← HW3.out]
  clear HW3
  go_cut [7, 8, 9, 10, 11] from 14 to 113 (fun y7 y8 y9 y10 y11 wx => RpMid w κ R bb (.slice ja J.length jcap) tv N J.length S pk pa pn P wx)
  case first =>
    by_cases h2 : pk = 2
    · have hb2 : (pk == 2) = true := by simp [h2]
      by_cases hbad : pn < 0 ∨ 1099511627776 < pn
      · have hpk := Lib.hid (pick_bad cpMac S pk pa pn (.inl ⟨h2, hbad⟩))
        by_cases hb0 : pn < 0
        · clear hbad h2
          go_wp2
          refine bodyPost_ret (v := .tuple #[evV 0 0 0 aaZ (.slice none 0 0) anZ (.slice none 0 0), .int .i64 1]) (res_ev2 (q := w.heap.size + 1) (c := aaZ) (x := anZ) rfl rfl rfl ?_) rfl ?_
          · exact ((((((((((((RB.out.set 0 (.int .i64 0)).set 1 (.int .i64 0)).set 2 (.int .i64 0)).set 3 (.int .i64 0)).set 4 (.int .i64 0)).set 5 (.int .i64 0)).set 6 (.int .u64 0)).set 7 (.int .u64 0)).set 8 (.slice none 0 0)).set 9 (.int .u64 0)).set 10 (.bool false)).set 11 (.slice none 0 0))
          · rw [HP.out, hpk.out]
            exact rp_early (J := J) (S1 := S) H3.out (fun _ _ => rfl) NB1.out (fun j hj => Nat.le_succ_of_le (HL.out j hj)) rfl (Below.keeps B3.out) (by
              iterate 12 (refine Keep.setCell (M := (· = w.heap.size + 1)) ?_ (Or.inl rfl) _)
              exact Keep.refl _ _)
        · have hb1 : 1099511627776 < pn := by omega
          clear hbad h2
          go_wp2
          refine bodyPost_ret (v := .tuple #[evV 0 0 0 aaZ (.slice none 0 0) anZ (.slice none 0 0), .int .i64 1]) (res_ev2 (q := w.heap.size + 1) (c := aaZ) (x := anZ) rfl rfl rfl ?_) rfl ?_
          · exact ((((((((((((RB.out.set 0 (.int .i64 0)).set 1 (.int .i64 0)).set 2 (.int .i64 0)).set 3 (.int .i64 0)).set 4 (.int .i64 0)).set 5 (.int .i64 0)).set 6 (.int .u64 0)).set 7 (.int .u64 0)).set 8 (.slice none 0 0)).set 9 (.int .u64 0)).set 10 (.bool false)).set 11 (.slice none 0 0))
          · rw [HP.out, hpk.out]
            exact rp_early (J := J) (S1 := S) H3.out (fun _ _ => rfl) NB1.out (fun j hj => Nat.le_succ_of_le (HL.out j hj)) rfl (Below.keeps B3.out) (by
              iterate 12 (refine Keep.setCell (M := (· = w.heap.size + 1)) ?_ (Or.inl rfl) _)
              exact Keep.refl _ _)
      · have hb0 : ¬ pn < 0 := by omega
        have hb1 : ¬ 1099511627776 < pn := by omega
        have hpk := Lib.hid (pick_tick cpMac S pk pa pn h2 hbad)
        clear hbad h2
        go_wp2_with fail
        go_region
        go_wp2_with fail
        go_meet
        have HC := (H3.out.clock (S.clk + pn)).below (show Below _ _ (World.drew _) from bel_drewN 1 (Below.refl _ _))
        refine ⟨κ, J, { S with clk := S.clk + pn }, aaZ, anZ, none, 0, 0, none, 0, 0, HP.out.trans hpk.out, rfl, HC, fun _ _ => rfl, NB1.out, NB2.out, Blk.drew (Blk.far XB.out (a := ⟨R, 2, none⟩) nRx' _), Blk.drew (Blk.far RB.out (a := ⟨R, 2, none⟩) (show w.heap.size + 1 ≠ R by have := RL.out; omega) _), .inl ⟨rfl, rfl⟩, .inl ⟨rfl, rfl⟩, (fun i hi => by rcases hi with hi | hi <;> cases hi), (fun j hj => Nat.le_succ_of_le (HL.out j hj)), rfl, ?_⟩
        exact Keep.drew (Keep.setCell (Below.keeps (M := fun i => κ i ≠ .no) B3.out) (p := ⟨R, 2, none⟩) (.inl (by show κ R ≠ .no; rw [H3.out.kR]; nofun)) _)
    · have hb2 : (pk == 2) = false := by simp [h2]
      by_cases h01 : pk = 0 ∨ pk = 1
      · rcases h01 with hk | hk
        · have h01 : pk = 0 ∨ pk = 1 := .inl hk
          have hb0 : (pk == 0) = true := by simp [hk]
          have hb1 : (pk == 1) = false := by simp [hk]
          by_cases hr0 : pa < 0
          · have hpk := Lib.hid (pick_range cpMac S pk pa pn h2 h01 (.inl hr0))
            clear hk h2 h01
            go_wp2_with fail
            go_quiet (fail)
            go_wp2
            refine bodyPost_ret (v := .tuple #[evV 0 0 0 aaZ (.slice none 0 0) anZ (.slice none 0 0), .int .i64 2]) (res_ev2 (q := w.heap.size + 1) (c := aaZ) (x := anZ) rfl rfl rfl ?_) rfl ?_
            · exact ((((((((((((RB.out.set 0 (.int .i64 0)).set 1 (.int .i64 0)).set 2 (.int .i64 0)).set 3 (.int .i64 0)).set 4 (.int .i64 0)).set 5 (.int .i64 0)).set 6 (.int .u64 0)).set 7 (.int .u64 0)).set 8 (.slice none 0 0)).set 9 (.int .u64 0)).set 10 (.bool false)).set 11 (.slice none 0 0))
            · rw [HP.out, hpk.out]
              exact rp_early (J := J) (S1 := S) (H3.out.below (bel_drewN nq (Below.refl _ _))) (fun _ _ => rfl) NB1.out (fun j hj => Nat.le_succ_of_le (HL.out j hj)) rfl (Below.keeps (bel_drewN nq B3.out)) (by
                iterate 12 (refine Keep.setCell (M := (· = w.heap.size + 1)) ?_ (Or.inl rfl) _)
                exact Keep.refl _ _)
          by_cases hr1 : (J.length : Int) ≤ pa
          · have hpk := Lib.hid (pick_range cpMac S pk pa pn h2 h01 (.inr (show (S.acts.length : Int) ≤ pa by rw [HJL.out]; exact hr1)))
            clear hk h2 h01
            go_wp2_with fail
            go_quiet (fail)
            go_wp2
            refine bodyPost_ret (v := .tuple #[evV 0 0 0 aaZ (.slice none 0 0) anZ (.slice none 0 0), .int .i64 2]) (res_ev2 (q := w.heap.size + 1) (c := aaZ) (x := anZ) rfl rfl rfl ?_) rfl ?_
            · exact ((((((((((((RB.out.set 0 (.int .i64 0)).set 1 (.int .i64 0)).set 2 (.int .i64 0)).set 3 (.int .i64 0)).set 4 (.int .i64 0)).set 5 (.int .i64 0)).set 6 (.int .u64 0)).set 7 (.int .u64 0)).set 8 (.slice none 0 0)).set 9 (.int .u64 0)).set 10 (.bool false)).set 11 (.slice none 0 0))
            · rw [HP.out, hpk.out]
              exact rp_early (J := J) (S1 := S) (H3.out.below (bel_drewN nq (Below.refl _ _))) (fun _ _ => rfl) NB1.out (fun j hj => Nat.le_succ_of_le (HL.out j hj)) rfl (Below.keeps (bel_drewN nq B3.out)) (by
                iterate 12 (refine Keep.setCell (M := (· = w.heap.size + 1)) ?_ (Or.inl rfl) _)
                exact Keep.refl _ _)
          obtain ⟨k, rfl⟩ : ∃ k : Nat, pa = k := ⟨pa.toNat, by omega⟩
          have hkJ : k < J.length := by omega
          have hkJ' : (k : Int) < (J.length : Int) := by omega
          have hkn : (0 : Int) ≤ (k : Int) := by omega
          obtain ⟨j, hj⟩ : ∃ j, J[k]? = some j := ⟨_, List.getElem?_eq_getElem hkJ⟩
          obtain ⟨g, cap, hjv, hc1, hc2, kg, gl, hcell, hfr⟩ := H3.out.job hj
          cases hjv
          have HACT := Lib.hid (show S.acts[k]? = some j.ac by rw [H3.out.st, List.getElem?_map, hj]; rfl)
          have HJ := Lib.hid hj
          have KG := Lib.hid kg
          have JIN := Lib.hid (H3.out.jobs j (List.mem_of_getElem? hj))
          have JTL := Lib.hid (HL.out j (List.mem_of_getElem? hj))
          have Hw3 := H3
          have PBw3 := PB
          have RBw3 := RB
          have XBw3 := XB
          have Bw3 := B3
          obtain ⟨jk, jA, jn, js, jb, jt, jT, jd⟩ := j
          have dX : ∀ i u, [Value.int .i64 jk, .int .i64 jA, .int .i64 jn, js, jt, .bool jd][i]? = some u → w3.cell? ⟨g, k * 6 + i, none⟩ = some u := hcell
          have d5 := dX 5 _ rfl
          have HH2 := Lib.hid h2
          have HPK := Lib.hid hk
          have HCELL := Lib.hid dX
          have HFR := Lib.hid hfr
          clear hcell hj kg hr0 hr1 hk h2 dX hfr
          have H01 := Lib.hid h01
          clear h01
          go_wp2_with fail
          go_quiet (fail)
          obtain ⟨wa, hwn⟩ : ∃ wn : World, wn = w3.drewN nq := ⟨_, rfl⟩
          rw [← hwn]
          have bwa : Below w3.heap.size w3 wa := by rw [hwn]; exact bel_drewN nq (Below.refl _ _)
          have zwa : wa.heap.size = w3.heap.size := by rw [hwn]; rfl
          have Hwa := Lib.hid (Hw3.out.below bwa)
          have PBwa := Lib.hid (PBw3.out.below bwa (by omega))
          have RBwa := Lib.hid (RBw3.out.below bwa (by omega))
          have XBwa := Lib.hid (XBw3.out.below bwa (by omega))
          have Bwa := Lib.hid (Bw3.out.trans (bwa.mono (by omega)))
          have W1a := Hwa.out.cells.2.1
          have d5a : wa.cell? ⟨g, k * 6 + 5, none⟩ = some (.bool jd) := (bwa.cell (p := ⟨g, k * 6 + 5, none⟩) gl).trans d5
          clear hwn W1 W2 WF2 d5 q0 q1 q2
          obtain ⟨q0, q1, q2⟩ : wa.cell? ⟨w.heap.size, 0, none⟩ = some (.int .i64 pk) ∧ wa.cell? ⟨w.heap.size, 1, none⟩ = some (.int .i64 k) ∧ wa.cell? ⟨w.heap.size, 2, none⟩ = some (.int .i64 pn) := PBwa.out.c3
          go_wp2_with fail
          go_quiet (fail)
          obtain ⟨wb, hwn⟩ : ∃ wn : World, wn = wa.drewN nq := ⟨_, rfl⟩
          rw [← hwn]
          have bwb : Below wa.heap.size wa wb := by rw [hwn]; exact bel_drewN nq (Below.refl _ _)
          have zwb : wb.heap.size = wa.heap.size := by rw [hwn]; rfl
          have Hwb := Lib.hid (Hwa.out.below bwb)
          have PBwb := Lib.hid (PBwa.out.below bwb (by omega))
          have RBwb := Lib.hid (RBwa.out.below bwb (by omega))
          have XBwb := Lib.hid (XBwa.out.below bwb (by omega))
          have Bwb := Lib.hid (Bwa.out.trans (bwb.mono (by omega)))
          have d5b : wb.cell? ⟨g, k * 6 + 5, none⟩ = some (.bool jd) := (bwb.cell (p := ⟨g, k * 6 + 5, none⟩) (by show g < _; omega)).trans d5a
          have BAB := Lib.hid (bwa.trans (bwb.mono (by omega)))
          clear hwn W1a d5a q0 q1 q2 bwa bwb f0 f1 f2 f3 f4 f5 f6 f7 f8 f9 f10 f11 g0 g1 g2 g3 g4 g5 g6 g7 g8 g9 g10 g11
          obtain ⟨q0, q1, q2⟩ : wb.cell? ⟨w.heap.size, 0, none⟩ = some (.int .i64 pk) ∧ wb.cell? ⟨w.heap.size, 1, none⟩ = some (.int .i64 k) ∧ wb.cell? ⟨w.heap.size, 2, none⟩ = some (.int .i64 pn) := PBwb.out.c3
          have hgx : g ≠ w.heap.size + 1 + 1 := by have := KG.out; intro e; rw [e, NB2.out] at this; cases this
          have hgr : g ≠ w.heap.size + 1 := by have := KG.out; intro e; rw [e, NB1.out] at this; cases this
          have hgp : g ≠ w.heap.size := by have := KG.out; intro e; rw [e, H.out.no_big (Nat.le_refl _)] at this; cases this
          cases jd with
          | true =>
            have hpk := Lib.hid (pick_dead cpMac S pk k pn HH2.out H01.out _ HACT.out rfl)
            obtain ⟨f0, f1, f2, f3, f4, f5, f6, f7, f8, f9, f10, f11⟩ := RBwb.out.f12
            obtain ⟨g0, g1, g2, g3, g4, g5, g6, g7, g8, g9, g10, g11⟩ := RBwb.out.c12
            go_wp2
            refine bodyPost_ret (v := .tuple #[evV 0 0 0 aaZ (.slice none 0 0) anZ (.slice none 0 0), .int .i64 11]) (res_ev2 (q := w.heap.size + 1) (c := aaZ) (x := anZ) rfl rfl rfl ?_) rfl ?_
            · exact ((((((((((((RBwb.out.set 0 (.int .i64 0)).set 1 (.int .i64 0)).set 2 (.int .i64 0)).set 3 (.int .i64 0)).set 4 (.int .i64 0)).set 5 (.int .i64 0)).set 6 (.int .u64 0)).set 7 (.int .u64 0)).set 8 (.slice none 0 0)).set 9 (.int .u64 0)).set 10 (.bool false)).set 11 (.slice none 0 0))
            · rw [HP.out, hpk.out]
              exact rp_early (J := J) (S1 := S) Hwb.out (fun _ _ => rfl) NB1.out (fun j hj => Nat.le_succ_of_le (HL.out j hj)) rfl (Below.keeps Bwb.out) (by
                iterate 12 (refine Keep.setCell (M := (· = w.heap.size + 1)) ?_ (Or.inl rfl) _)
                exact Keep.refl _ _)
          | false =>
            exact (HNS.out ⟨HPK.out, k, _, rfl, HJ.out, rfl⟩).elim
        · have h01 : pk = 0 ∨ pk = 1 := .inr hk
          have hb0 : (pk == 0) = false := by simp [hk]
          have hb1 : (pk == 1) = true := by simp [hk]
          by_cases hr0 : pa < 0
          · have hpk := Lib.hid (pick_range cpMac S pk pa pn h2 h01 (.inl hr0))
            clear hk h2 h01
            go_wp2_with fail
            go_quiet (fail)
            go_wp2
            refine bodyPost_ret (v := .tuple #[evV 0 0 0 aaZ (.slice none 0 0) anZ (.slice none 0 0), .int .i64 2]) (res_ev2 (q := w.heap.size + 1) (c := aaZ) (x := anZ) rfl rfl rfl ?_) rfl ?_
            · exact ((((((((((((RB.out.set 0 (.int .i64 0)).set 1 (.int .i64 0)).set 2 (.int .i64 0)).set 3 (.int .i64 0)).set 4 (.int .i64 0)).set 5 (.int .i64 0)).set 6 (.int .u64 0)).set 7 (.int .u64 0)).set 8 (.slice none 0 0)).set 9 (.int .u64 0)).set 10 (.bool false)).set 11 (.slice none 0 0))
            · rw [HP.out, hpk.out]
              exact rp_early (J := J) (S1 := S) (H3.out.below (bel_drewN nq (Below.refl _ _))) (fun _ _ => rfl) NB1.out (fun j hj => Nat.le_succ_of_le (HL.out j hj)) rfl (Below.keeps (bel_drewN nq B3.out)) (by
                iterate 12 (refine Keep.setCell (M := (· = w.heap.size + 1)) ?_ (Or.inl rfl) _)
                exact Keep.refl _ _)
          by_cases hr1 : (J.length : Int) ≤ pa
          · have hpk := Lib.hid (pick_range cpMac S pk pa pn h2 h01 (.inr (show (S.acts.length : Int) ≤ pa by rw [HJL.out]; exact hr1)))
            clear hk h2 h01
            go_wp2_with fail
            go_quiet (fail)
            go_wp2
            refine bodyPost_ret (v := .tuple #[evV 0 0 0 aaZ (.slice none 0 0) anZ (.slice none 0 0), .int .i64 2]) (res_ev2 (q := w.heap.size + 1) (c := aaZ) (x := anZ) rfl rfl rfl ?_) rfl ?_
            · exact ((((((((((((RB.out.set 0 (.int .i64 0)).set 1 (.int .i64 0)).set 2 (.int .i64 0)).set 3 (.int .i64 0)).set 4 (.int .i64 0)).set 5 (.int .i64 0)).set 6 (.int .u64 0)).set 7 (.int .u64 0)).set 8 (.slice none 0 0)).set 9 (.int .u64 0)).set 10 (.bool false)).set 11 (.slice none 0 0))
            · rw [HP.out, hpk.out]
              exact rp_early (J := J) (S1 := S) (H3.out.below (bel_drewN nq (Below.refl _ _))) (fun _ _ => rfl) NB1.out (fun j hj => Nat.le_succ_of_le (HL.out j hj)) rfl (Below.keeps (bel_drewN nq B3.out)) (by
                iterate 12 (refine Keep.setCell (M := (· = w.heap.size + 1)) ?_ (Or.inl rfl) _)
                exact Keep.refl _ _)
          obtain ⟨k, rfl⟩ : ∃ k : Nat, pa = k := ⟨pa.toNat, by omega⟩
          have hkJ : k < J.length := by omega
          have hkJ' : (k : Int) < (J.length : Int) := by omega
          have hkn : (0 : Int) ≤ (k : Int) := by omega
          obtain ⟨j, hj⟩ : ∃ j, J[k]? = some j := ⟨_, List.getElem?_eq_getElem hkJ⟩
          obtain ⟨g, cap, hjv, hc1, hc2, kg, gl, hcell, hfr⟩ := H3.out.job hj
          cases hjv
          have HACT := Lib.hid (show S.acts[k]? = some j.ac by rw [H3.out.st, List.getElem?_map, hj]; rfl)
          have HJ := Lib.hid hj
          have KG := Lib.hid kg
          have JIN := Lib.hid (H3.out.jobs j (List.mem_of_getElem? hj))
          have JTL := Lib.hid (HL.out j (List.mem_of_getElem? hj))
          have Hw3 := H3
          have PBw3 := PB
          have RBw3 := RB
          have XBw3 := XB
          have Bw3 := B3
          obtain ⟨jk, jA, jn, js, jb, jt, jT, jd⟩ := j
          have dX : ∀ i u, [Value.int .i64 jk, .int .i64 jA, .int .i64 jn, js, jt, .bool jd][i]? = some u → w3.cell? ⟨g, k * 6 + i, none⟩ = some u := hcell
          have d5 := dX 5 _ rfl
          have HH2 := Lib.hid h2
          have HPK := Lib.hid hk
          have HCELL := Lib.hid dX
          have HFR := Lib.hid hfr
          clear hcell hj kg hr0 hr1 hk h2 dX hfr
          have H01 := Lib.hid h01
          clear h01
          go_wp2_with fail
          go_quiet (fail)
          obtain ⟨wa, hwn⟩ : ∃ wn : World, wn = w3.drewN nq := ⟨_, rfl⟩
          rw [← hwn]
          have bwa : Below w3.heap.size w3 wa := by rw [hwn]; exact bel_drewN nq (Below.refl _ _)
          have zwa : wa.heap.size = w3.heap.size := by rw [hwn]; rfl
          have Hwa := Lib.hid (Hw3.out.below bwa)
          have PBwa := Lib.hid (PBw3.out.below bwa (by omega))
          have RBwa := Lib.hid (RBw3.out.below bwa (by omega))
          have XBwa := Lib.hid (XBw3.out.below bwa (by omega))
          have Bwa := Lib.hid (Bw3.out.trans (bwa.mono (by omega)))
          have W1a := Hwa.out.cells.2.1
          have d5a : wa.cell? ⟨g, k * 6 + 5, none⟩ = some (.bool jd) := (bwa.cell (p := ⟨g, k * 6 + 5, none⟩) gl).trans d5
          clear hwn W1 W2 WF2 d5 q0 q1 q2
          obtain ⟨q0, q1, q2⟩ : wa.cell? ⟨w.heap.size, 0, none⟩ = some (.int .i64 pk) ∧ wa.cell? ⟨w.heap.size, 1, none⟩ = some (.int .i64 k) ∧ wa.cell? ⟨w.heap.size, 2, none⟩ = some (.int .i64 pn) := PBwa.out.c3
          go_wp2_with fail
          go_quiet (fail)
          obtain ⟨wb, hwn⟩ : ∃ wn : World, wn = wa.drewN nq := ⟨_, rfl⟩
          rw [← hwn]
          have bwb : Below wa.heap.size wa wb := by rw [hwn]; exact bel_drewN nq (Below.refl _ _)
          have zwb : wb.heap.size = wa.heap.size := by rw [hwn]; rfl
          have Hwb := Lib.hid (Hwa.out.below bwb)
          have PBwb := Lib.hid (PBwa.out.below bwb (by omega))
          have RBwb := Lib.hid (RBwa.out.below bwb (by omega))
          have XBwb := Lib.hid (XBwa.out.below bwb (by omega))
          have Bwb := Lib.hid (Bwa.out.trans (bwb.mono (by omega)))
          have d5b : wb.cell? ⟨g, k * 6 + 5, none⟩ = some (.bool jd) := (bwb.cell (p := ⟨g, k * 6 + 5, none⟩) (by show g < _; omega)).trans d5a
          have BAB := Lib.hid (bwa.trans (bwb.mono (by omega)))
          clear hwn W1a d5a q0 q1 q2 bwa bwb f0 f1 f2 f3 f4 f5 f6 f7 f8 f9 f10 f11 g0 g1 g2 g3 g4 g5 g6 g7 g8 g9 g10 g11
          obtain ⟨q0, q1, q2⟩ : wb.cell? ⟨w.heap.size, 0, none⟩ = some (.int .i64 pk) ∧ wb.cell? ⟨w.heap.size, 1, none⟩ = some (.int .i64 k) ∧ wb.cell? ⟨w.heap.size, 2, none⟩ = some (.int .i64 pn) := PBwb.out.c3
          have hgx : g ≠ w.heap.size + 1 + 1 := by have := KG.out; intro e; rw [e, NB2.out] at this; cases this
          have hgr : g ≠ w.heap.size + 1 := by have := KG.out; intro e; rw [e, NB1.out] at this; cases this
          have hgp : g ≠ w.heap.size := by have := KG.out; intro e; rw [e, H.out.no_big (Nat.le_refl _)] at this; cases this
          cases jd with
          | true =>
            have hpk := Lib.hid (pick_dead cpMac S pk k pn HH2.out H01.out _ HACT.out rfl)
            obtain ⟨f0, f1, f2, f3, f4, f5, f6, f7, f8, f9, f10, f11⟩ := RBwb.out.f12
            obtain ⟨g0, g1, g2, g3, g4, g5, g6, g7, g8, g9, g10, g11⟩ := RBwb.out.c12
            go_wp2
            refine bodyPost_ret (v := .tuple #[evV 0 0 0 aaZ (.slice none 0 0) anZ (.slice none 0 0), .int .i64 11]) (res_ev2 (q := w.heap.size + 1) (c := aaZ) (x := anZ) rfl rfl rfl ?_) rfl ?_
            · exact ((((((((((((RBwb.out.set 0 (.int .i64 0)).set 1 (.int .i64 0)).set 2 (.int .i64 0)).set 3 (.int .i64 0)).set 4 (.int .i64 0)).set 5 (.int .i64 0)).set 6 (.int .u64 0)).set 7 (.int .u64 0)).set 8 (.slice none 0 0)).set 9 (.int .u64 0)).set 10 (.bool false)).set 11 (.slice none 0 0))
            · rw [HP.out, hpk.out]
              exact rp_early (J := J) (S1 := S) Hwb.out (fun _ _ => rfl) NB1.out (fun j hj => Nat.le_succ_of_le (HL.out j hj)) rfl (Below.keeps Bwb.out) (by
                iterate 12 (refine Keep.setCell (M := (· = w.heap.size + 1)) ?_ (Or.inl rfl) _)
                exact Keep.refl _ _)
          | false =>
            have hpk := Lib.hid (pick_kill cpMac S pk k pn HH2.out HPK.out _ HACT.out rfl)
            have fd : wb.frozen? ⟨g, k * 6 + 5, none⟩ = false := (BAB.out.frozen (p := ⟨g, k * 6 + 5, none⟩) (by show g < _; omega)).trans (HFR.out _)
            go_wp2_with fail
            go_meet
            have HT := Hwb.out.turn HJ.out (j' := ⟨jk, jA, jn, js, jb, jt, jT, true⟩) rfl 5 (.bool true) (by decide) rfl (((JIN.out.keep (Below.keeps (M := fun _ => False) BAB.out) (fun _ _ => id) (fun _ => id))).dead true)
            refine ⟨κ, J.set k ⟨jk, jA, jn, js, jb, jt, jT, true⟩, { S with acts := S.acts.set k ⟨some (JbS.mac ⟨jk, jA, jn, js, jb, jt, jT, false⟩), true⟩ }, aaZ, anZ, none, 0, 0, none, 0, 0, HP.out.trans hpk.out, rfl, HT, fun _ _ => rfl, NB1.out, NB2.out, Blk.far XBwb.out (a := ⟨g, k * 6 + 5, none⟩) hgx.symm _, Blk.far RBwb.out (a := ⟨g, k * 6 + 5, none⟩) hgr.symm _, .inl ⟨rfl, rfl⟩, .inl ⟨rfl, rfl⟩, (fun i hi => by rcases hi with hi | hi <;> cases hi), fun x hx => ?_, List.length_set .., ?_⟩
            · rcases List.mem_or_eq_of_mem_set hx with hx | rfl
              · exact Nat.le_succ_of_le (HL.out x hx)
              · exact Nat.le_succ_of_le JTL.out
            · exact Keep.setCell (Below.keeps (M := fun i => κ i ≠ .no) Bwb.out) (p := ⟨g, k * 6 + 5, none⟩) (.inl (by show κ g ≠ .no; rw [KG.out]; nofun)) _
      · have hb0 : (pk == 0) = false := by simp; omega
        have hb1 : (pk == 1) = false := by simp; omega
        have hpk := Lib.hid (pick_bad cpMac S pk pa pn (.inr ⟨h2, h01⟩))
        clear h01 h2
        go_wp2
        refine bodyPost_ret (v := .tuple #[evV 0 0 0 aaZ (.slice none 0 0) anZ (.slice none 0 0), .int .i64 1]) (res_ev2 (q := w.heap.size + 1) (c := aaZ) (x := anZ) rfl rfl rfl ?_) rfl ?_
        · exact ((((((((((((RB.out.set 0 (.int .i64 0)).set 1 (.int .i64 0)).set 2 (.int .i64 0)).set 3 (.int .i64 0)).set 4 (.int .i64 0)).set 5 (.int .i64 0)).set 6 (.int .u64 0)).set 7 (.int .u64 0)).set 8 (.slice none 0 0)).set 9 (.int .u64 0)).set 10 (.bool false)).set 11 (.slice none 0 0))
        · rw [HP.out, hpk.out]
          exact rp_early (J := J) (S1 := S) H3.out (fun _ _ => rfl) NB1.out (fun j hj => Nat.le_succ_of_le (HL.out j hj)) rfl (Below.keeps B3.out) (by
            iterate 12 (refine Keep.setCell (M := (· = w.heap.size + 1)) ?_ (Or.inl rfl) _)
            exact Keep.refl _ _)
  case rest =>
    obtain ⟨κ4, J4, S1, ca, xa, sa, sl, sc, ta, tl, tc, hP4, htr4, h4, k4, n41, n42, x4, r4, rd1, rd2, kn4, ln4, len4, kp4⟩ := hcut
    have H4 := Lib.hid h4
    have HP4 := Lib.hid hP4
    have K4 := Lib.hid k4
    have N41 := Lib.hid n41
    have N42 := Lib.hid n42
    have XB4 := Lib.hid x4
    have R4 := Lib.hid r4
    have RD1 := Lib.hid rd1
    have RD2 := Lib.hid rd2
    have KN4 := Lib.hid kn4
    have LN4 := Lib.hid ln4
    have LEN4 := Lib.hid len4
    have KP4 := Lib.hid kp4
    obtain ⟨es, hes, ho, hob, hev⟩ := h4.tr
    have hel : es.length ≤ 1000000 := by have e := congrArg List.length hes; rw [List.length_map, htr4] at e; omega
    have HES := Lib.hid hes
    have HO := Lib.hid ho
    have HOB := Lib.hid hob
    have HEV := Lib.hid hev
    have WC := h4.cells.2.2.2
    have WF := h4.hd.frozen 3
    have hRlt : R < wc.heap.size := h4.hd.lt
    have hxlt : w.heap.size + 1 + 1 < wc.heap.size := x4.lt
    have hrlt : w.heap.size + 1 < wc.heap.size := r4.lt
    have hwx4 : R ≠ wc.heap.size := by omega
    have HW0 := Lib.hid kp4.size
    clear W1 W2 WF2 q0 q1 q2 f0 f1 f2 f3 f4 f5 f6 f7 f8 f9 f10 f11 g0 g1 g2 g3 g4 g5 g6 g7 g8 g9 g10 g11
    obtain ⟨g0, g1, g2, g3, g4, g5, g6, g7, g8, g9, g10, g11⟩ := (show Blk wc (w.heap.size + 1 + 1) [.int .i64 pk, .int .i64 pa, .int .i64 pn, .int .i64 ca.k, .int .i64 ca.a, .int .i64 ca.n, .int .u64 ca.v, .int .u64 ca.x, .slice sa sl sc, .int .u64 xa.v, .bool xa.d, .slice ta tl tc] from x4).c12
    obtain ⟨i0, hi, hz0, hz1, hz2⟩ := info_parts evinfo
    clear h4 hP4 htr4 k4 n41 n42 x4 r4 rd1 rd2 kn4 ln4 len4 kp4 hes ho hob hev
    go_upto_region 25 with fail
    go_cut [] from 114 to 123 (fun wx => ∃ κ' tv', RoIn wx κ' R bb (.slice ja J.length jcap) tv' J4 { S1 with tr := S1.tr ++ [⟨pk, pa, pn, ca, xa⟩] } ∧ (∀ i, i < w.heap.size → κ' i = κ i) ∧ κ' (w.heap.size + 1) = .no ∧ Blk wx (w.heap.size + 1 + 1) [.int .i64 pk, .int .i64 pa, .int .i64 pn, .int .i64 ca.k, .int .i64 ca.a, .int .i64 ca.n, .int .u64 ca.v, .int .u64 ca.x, .slice sa sl sc, .int .u64 xa.v, .bool xa.d, .slice ta tl tc] ∧ RdB wx (.slice sa sl sc) ca.b ∧ RdB wx (.slice ta tl tc) xa.b ∧ Blk wx (w.heap.size + 1) [.int .i64 0, .int .i64 0, .int .i64 0, .int .i64 0, .int .i64 0, .int .i64 0, .int .u64 0, .int .u64 0, .slice none 0 0, .int .u64 0, .bool false, .slice none 0 0] ∧ Keep (fun i => κ i ≠ .no) w wx)
    case first =>
      refine wp_region_held_drew (S := fun w' => w'.cell? ⟨w.heap.size + 1 + 1, 0, none⟩ = some (.int .i64 pk) ∧ w'.cell? ⟨w.heap.size + 1 + 1, 1, none⟩ = some (.int .i64 pa) ∧ w'.cell? ⟨w.heap.size + 1 + 1, 2, none⟩ = some (.int .i64 pn) ∧ w'.cell? ⟨w.heap.size + 1 + 1, 3, none⟩ = some (.int .i64 ca.k) ∧ w'.cell? ⟨w.heap.size + 1 + 1, 4, none⟩ = some (.int .i64 ca.a) ∧ w'.cell? ⟨w.heap.size + 1 + 1, 5, none⟩ = some (.int .i64 ca.n) ∧ w'.cell? ⟨w.heap.size + 1 + 1, 6, none⟩ = some (.int .u64 ca.v) ∧ w'.cell? ⟨w.heap.size + 1 + 1, 7, none⟩ = some (.int .u64 ca.x) ∧ w'.cell? ⟨w.heap.size + 1 + 1, 8, none⟩ = some (.slice sa sl sc) ∧ w'.cell? ⟨w.heap.size + 1 + 1, 9, none⟩ = some (.int .u64 xa.v) ∧ w'.cell? ⟨w.heap.size + 1 + 1, 10, none⟩ = some (.bool xa.d) ∧ w'.cell? ⟨w.heap.size + 1 + 1, 11, none⟩ = some (.slice ta tl tc)) (by kernel_rfl) ?_ (fun hHeld => ?_)
      · try dsimp only
        exact ⟨g0, g1, g2, g3, g4, g5, g6, g7, g8, g9, g10, g11⟩
      refine wpAnyH_take (i := 0) (v := ?_) rfl (by kernel_rfl) (by kernel_rfl) (by kernel_rfl) (fun _ _ _ h => h) (Or.inl ⟨by rfl, ?_⟩) (by assumption) ?_
      rotate_left
      · intro w0 hSw
        (try dsimp only at hSw)
        go_simp
        try with_reducible rfl
      try simp only [Act.put, List.getElem_toArray, List.getElem_cons_zero, List.getElem_cons_succ, List.setIfInBounds_toArray, List.set_cons_zero, List.set_cons_succ]
      refine wpAnyH_take (i := 1) (v := ?_) rfl (by kernel_rfl) (by kernel_rfl) (by kernel_rfl) (fun _ _ _ h => h) (Or.inl ⟨by rfl, ?_⟩) (by assumption) ?_
      rotate_left
      · intro w0 hSw
        (try dsimp only at hSw)
        go_simp
        try with_reducible rfl
      try simp only [Act.put, List.getElem_toArray, List.getElem_cons_zero, List.getElem_cons_succ, List.setIfInBounds_toArray, List.set_cons_zero, List.set_cons_succ]
      refine wpAnyH_take (i := 2) (v := ?_) rfl (by kernel_rfl) (by kernel_rfl) (by kernel_rfl) (fun _ _ _ h => h) (Or.inl ⟨by rfl, ?_⟩) (by assumption) ?_
      rotate_left
      · intro w0 hSw
        (try dsimp only at hSw)
        go_simp
        try with_reducible rfl
      try simp only [Act.put, List.getElem_toArray, List.getElem_cons_zero, List.getElem_cons_succ, List.setIfInBounds_toArray, List.set_cons_zero, List.set_cons_succ]
      refine wpAnyH_take (i := 3) (v := ?_) rfl (by kernel_rfl) (by kernel_rfl) (by kernel_rfl) (fun _ _ _ h => h) (Or.inl ⟨by rfl, ?_⟩) (by assumption) ?_
      rotate_left
      · intro w0 hSw
        (try dsimp only at hSw)
        go_simp
        try with_reducible rfl
      try simp only [Act.put, List.getElem_toArray, List.getElem_cons_zero, List.getElem_cons_succ, List.setIfInBounds_toArray, List.set_cons_zero, List.set_cons_succ]
      refine wpAnyH_take (i := 5) (v := ?_) rfl (by kernel_rfl) (by kernel_rfl) (by kernel_rfl) (fun _ _ _ h => h) (Or.inl ⟨by rfl, ?_⟩) (by assumption) ?_
      rotate_left
      · intro w0 hSw
        (try dsimp only at hSw)
        go_simp
        try with_reducible rfl
      try simp only [Act.put, List.getElem_toArray, List.getElem_cons_zero, List.getElem_cons_succ, List.setIfInBounds_toArray, List.set_cons_zero, List.set_cons_succ]
      refine wpAnyH_ready (rs := [4, 6]) (by kernel_rfl) (by simp) ?_
      refine AllReadyH.cons rfl (fun K hK => ?_) (AllReadyH.cons rfl (fun K hK => ?_) AllReadyH.nil)
      · go_simp
        refine hK.out _ _ ?_ (fun hHeld => ?_)
        · try dsimp only
          all_goals go_keep
        clear hK K
        try simp only [Act.put, List.getElem_toArray, List.getElem_cons_zero, List.getElem_cons_succ, List.setIfInBounds_toArray, List.set_cons_zero, List.set_cons_succ]
        refine wpAnyH_ready (rs := [6]) (by kernel_rfl) (by simp) ?_
        refine AllReadyH.cons rfl (fun K hK => ?_) AllReadyH.nil
        go_simp
        go_wp2_with fail
        refine hK.out _ _ ?_ (fun hHeld => ?_)
        · try dsimp only
          all_goals go_keep
        clear hK K
        try simp only [Act.put, List.getElem_toArray, List.getElem_cons_zero, List.getElem_cons_succ, List.setIfInBounds_toArray, List.set_cons_zero, List.set_cons_succ]
        obtain ⟨w5, hw5⟩ : ∃ w5 : World, w5 = (wc.alloc (Obj.cells #[.int .i64 pk, .int .i64 pa, .int .i64 pn, .int .i64 ca.k, .int .i64 ca.a, .int .i64 ca.n, .int .u64 ca.v, .int .u64 ca.x, .slice sa sl sc, .int .u64 xa.v, .bool xa.d, .slice ta tl tc] 51)).drew := ⟨_, rfl⟩
        have b5 : Below wc.heap.size wc w5 := by rw [hw5]; exact bel_drewN 1 ((Below.refl _ _).alloc (Nat.le_refl _) _)
        have NB := Lib.hid (show Blk w5 wc.heap.size [.int .i64 pk, .int .i64 pa, .int .i64 pn, .int .i64 ca.k, .int .i64 ca.a, .int .i64 ca.n, .int .u64 ca.v, .int .u64 ca.x, .slice sa sl sc, .int .u64 xa.v, .bool xa.d, .slice ta tl tc] by rw [hw5]; exact Blk.drew (Blk.made wc _ _))
        have H5 := Lib.hid (H4.out.below b5)
        have OW := Lib.hid (ownsRow_keep HO.out (Below.keeps (M := fun _ => False) b5) (fun _ _ => id))
        have XB5 := Lib.hid (XB4.out.below b5 hxlt)
        have RB5 := Lib.hid (R4.out.below b5 (by omega))
        have HS5 := Lib.hid (show w5.heap.size = wc.heap.size + 1 by rw [hw5, World.size_drew, World.size_alloc])
        have B5 := Lib.hid b5
        rw [← hw5]
        clear hw5 b5
        refine wpAnyH_ready (rs := [7]) (by kernel_rfl) (by simp) ?_
        refine AllReadyH.cons rfl (fun K hK => ?_) AllReadyH.nil
        refine wp_app1 (.tmp 118) (.tmp 120) 40 51 rfl Try.underlying40 hi hz0 hz1 hz2 rfl (by decide) tv es.length (es.flatMap evL) rfl OW.out wc.heap.size (evC pk pa pn ca (.slice sa sl sc) xa (.slice ta tl tc)) rfl NB.out rfl (ones_ev _ _ _ _ _ _ _ _ _ _ _) (by omega) (by unfold maxLen; omega) ?_
        intro v' w6 o6 g6 e6
        have KG := grown_keep g6
        have nX : ∀ i, κ4 i ≠ .tr → ¬ tv.ownBlock = some i := fun i h1 h2 => h1 (HOB.out i h2)
        have XB6 := Lib.hid (show Blk w6 (w.heap.size + 1 + 1) [.int .i64 pk, .int .i64 pa, .int .i64 pn, .int .i64 ca.k, .int .i64 ca.a, .int .i64 ca.n, .int .u64 ca.v, .int .u64 ca.x, .slice sa sl sc, .int .u64 xa.v, .bool xa.d, .slice ta tl tc] from Blk.keep XB5.out KG (nX _ (by rw [N42.out]; nofun)))
        have RB6 := Lib.hid (RB5.out.keep KG (nX _ (by rw [N41.out]; nofun)))
        have nWt : ¬ tv.ownBlock = some R := nX _ (by rw [H4.out.kR]; nofun)
        have hWF := (KG.frozen (b := R) 3 H5.out.hd.lt nWt).trans (H5.out.hd.frozen 3)
        have hWC := (KG.cell (b := R) 3 H5.out.hd.lt nWt).trans H5.out.cells.2.2.2
        have O6 := Lib.hid o6
        have E6 := Lib.hid e6
        have KG := Lib.hid KG
        have NX := Lib.hid nX
        obtain ⟨va, vl, vc, rfl⟩ := own_isSl o6
        clear o6 e6 g6 nWt nX
        refine hK.out _ _ ?_ (fun hHeld => ?_)
        · try dsimp only
          exact XB6.out.c12
        clear hK K
        try simp only [Act.put, List.getElem_toArray, List.getElem_cons_zero, List.getElem_cons_succ, List.setIfInBounds_toArray, List.set_cons_zero, List.set_cons_succ]
        refine wpAnyH_take (i := 8) (v := ?_) rfl (by kernel_rfl) (by kernel_rfl) (by kernel_rfl) (fun _ _ _ h => h) (Or.inl ⟨by rfl, ?_⟩) (by assumption) ?_
        rotate_left
        · intro w0 hSw
          (try dsimp only at hSw)
          go_simp
          try with_reducible rfl
        try simp only [Act.put, List.getElem_toArray, List.getElem_cons_zero, List.getElem_cons_succ, List.setIfInBounds_toArray, List.set_cons_zero, List.set_cons_succ]
        refine wpAnyH_take (i := 9) (v := ?_) rfl (by kernel_rfl) (by kernel_rfl) (by kernel_rfl) (fun _ _ _ h => h) (Or.inl ⟨by rfl, ?_⟩) (by assumption) ?_
        rotate_left
        · intro w0 hSw
          (try dsimp only at hSw)
          go_simp
          try with_reducible rfl
        try simp only [Act.put, List.getElem_toArray, List.getElem_cons_zero, List.getElem_cons_succ, List.setIfInBounds_toArray, List.set_cons_zero, List.set_cons_succ]
        refine wpAnyH_ready (rs := [10]) (by kernel_rfl) (by simp) ?_
        refine AllReadyH.cons rfl (fun K hK => ?_) AllReadyH.nil
        go_simp
        refine hK.out _ _ ?_ (fun hHeld => ?_)
        · try dsimp only
          exact (Blk.far XB6.out (a := ⟨R, 3, none⟩) nRx' _).c12
        clear hK K
        try simp only [Act.put, List.getElem_toArray, List.getElem_cons_zero, List.getElem_cons_succ, List.setIfInBounds_toArray, List.set_cons_zero, List.set_cons_succ]
        refine wpAnyH_done (by kernel_rfl) ?_ _
        go_wp2_with fail
        go_meet
        have hHS := HS5.out
        have hw0 := HW0.out
        have hown : ∀ i, (Value.slice va vl vc).ownBlock = some i → κ4 i = .tr ∨ i = w5.heap.size := fun i hi => by rcases E6.out with h | h; exact .inl (HOB.out i (h ▸ hi)); rw [h] at hi; exact .inr (Option.some.inj hi).symm
        refine ⟨kdR κ4 (.slice va vl vc), .slice va vl vc, H5.out.traced es HES.out HOB.out (HEV.out.keep (K := fun _ => False) (Below.keeps B5.out) (fun _ _ => id) (fun _ => id)) ⟨pk, pa, pn, ca, xa⟩ (.slice sa sl sc) (.slice ta tl tc) (RD1.out.below B5.out) (RD2.out.below B5.out) KN4.out KG.out O6.out E6.out, fun i hi => ?_, ?_, Blk.far XB6.out (a := ⟨R, 3, none⟩) nRx' _, ?_, ?_, Blk.far RB6.out (a := ⟨R, 3, none⟩) (show w.heap.size + 1 ≠ R by have := RL.out; omega) _, ?_⟩
        · unfold kdR
          split
          · rename_i e
            rcases hown i e with h | h
            · rw [← K4.out i hi]; exact h.symm
            · omega
          · exact K4.out i hi
        · unfold kdR
          rw [if_neg]
          · exact N41.out
          · intro e
            rcases hown _ e with h | h
            · rw [N41.out] at h; cases h
            · omega
        · refine ((RD1.out.below B5.out).keep KG.out fun _ i hi => NX.out i (by rw [KN4.out i (.inl hi)]; nofun)).keep (Keep.setCell (M := (· = R)) (Keep.refl _ _) (p := ⟨R, 3, none⟩) (.inl rfl) _) fun _ i hi h => ?_
          have h1 := KN4.out i (.inl hi)
          rw [show i = R from h, H4.out.kR] at h1
          cases h1
        · refine ((RD2.out.below B5.out).keep KG.out fun _ i hi => NX.out i (by rw [KN4.out i (.inr hi)]; nofun)).keep (Keep.setCell (M := (· = R)) (Keep.refl _ _) (p := ⟨R, 3, none⟩) (.inl rfl) _) fun _ i hi h => ?_
          have h1 := KN4.out i (.inr hi)
          rw [show i = R from h, H4.out.kR] at h1
          cases h1
        · refine Keep.setCell ((KP4.out.trans (Below.keeps B5.out)).then KG.out (fun i hi h => ?_)) (p := ⟨R, 3, none⟩) (.inl (by show κ R ≠ .no; rw [H.out.kR]; nofun)) _
          have h1 := HOB.out i h
          rw [K4.out i hi] at h1
          show κ i ≠ .no
          rw [h1]
          nofun
      · go_simp
        go_wp2_with fail
        refine hK.out _ _ ?_ (fun hHeld => ?_)
        · try dsimp only
          all_goals go_keep
        clear hK K
        try simp only [Act.put, List.getElem_toArray, List.getElem_cons_zero, List.getElem_cons_succ, List.setIfInBounds_toArray, List.set_cons_zero, List.set_cons_succ]
        refine wpAnyH_ready (rs := [4]) (by kernel_rfl) (by simp) ?_
        refine AllReadyH.cons rfl (fun K hK => ?_) AllReadyH.nil
        go_simp
        refine hK.out _ _ ?_ (fun hHeld => ?_)
        · try dsimp only
          all_goals go_keep
        clear hK K
        try simp only [Act.put, List.getElem_toArray, List.getElem_cons_zero, List.getElem_cons_succ, List.setIfInBounds_toArray, List.set_cons_zero, List.set_cons_succ]
        obtain ⟨w5, hw5⟩ : ∃ w5 : World, w5 = (wc.alloc (Obj.cells #[.int .i64 pk, .int .i64 pa, .int .i64 pn, .int .i64 ca.k, .int .i64 ca.a, .int .i64 ca.n, .int .u64 ca.v, .int .u64 ca.x, .slice sa sl sc, .int .u64 xa.v, .bool xa.d, .slice ta tl tc] 51)).drew := ⟨_, rfl⟩
        have b5 : Below wc.heap.size wc w5 := by rw [hw5]; exact bel_drewN 1 ((Below.refl _ _).alloc (Nat.le_refl _) _)
        have NB := Lib.hid (show Blk w5 wc.heap.size [.int .i64 pk, .int .i64 pa, .int .i64 pn, .int .i64 ca.k, .int .i64 ca.a, .int .i64 ca.n, .int .u64 ca.v, .int .u64 ca.x, .slice sa sl sc, .int .u64 xa.v, .bool xa.d, .slice ta tl tc] by rw [hw5]; exact Blk.drew (Blk.made wc _ _))
        have H5 := Lib.hid (H4.out.below b5)
        have OW := Lib.hid (ownsRow_keep HO.out (Below.keeps (M := fun _ => False) b5) (fun _ _ => id))
        have XB5 := Lib.hid (XB4.out.below b5 hxlt)
        have RB5 := Lib.hid (R4.out.below b5 (by omega))
        have HS5 := Lib.hid (show w5.heap.size = wc.heap.size + 1 by rw [hw5, World.size_drew, World.size_alloc])
        have B5 := Lib.hid b5
        rw [← hw5]
        clear hw5 b5
        refine wpAnyH_ready (rs := [7]) (by kernel_rfl) (by simp) ?_
        refine AllReadyH.cons rfl (fun K hK => ?_) AllReadyH.nil
        refine wp_app1 (.tmp 118) (.tmp 120) 40 51 rfl Try.underlying40 hi hz0 hz1 hz2 rfl (by decide) tv es.length (es.flatMap evL) rfl OW.out wc.heap.size (evC pk pa pn ca (.slice sa sl sc) xa (.slice ta tl tc)) rfl NB.out rfl (ones_ev _ _ _ _ _ _ _ _ _ _ _) (by omega) (by unfold maxLen; omega) ?_
        intro v' w6 o6 g6 e6
        have KG := grown_keep g6
        have nX : ∀ i, κ4 i ≠ .tr → ¬ tv.ownBlock = some i := fun i h1 h2 => h1 (HOB.out i h2)
        have XB6 := Lib.hid (show Blk w6 (w.heap.size + 1 + 1) [.int .i64 pk, .int .i64 pa, .int .i64 pn, .int .i64 ca.k, .int .i64 ca.a, .int .i64 ca.n, .int .u64 ca.v, .int .u64 ca.x, .slice sa sl sc, .int .u64 xa.v, .bool xa.d, .slice ta tl tc] from Blk.keep XB5.out KG (nX _ (by rw [N42.out]; nofun)))
        have RB6 := Lib.hid (RB5.out.keep KG (nX _ (by rw [N41.out]; nofun)))
        have nWt : ¬ tv.ownBlock = some R := nX _ (by rw [H4.out.kR]; nofun)
        have hWF := (KG.frozen (b := R) 3 H5.out.hd.lt nWt).trans (H5.out.hd.frozen 3)
        have hWC := (KG.cell (b := R) 3 H5.out.hd.lt nWt).trans H5.out.cells.2.2.2
        have O6 := Lib.hid o6
        have E6 := Lib.hid e6
        have KG := Lib.hid KG
        have NX := Lib.hid nX
        obtain ⟨va, vl, vc, rfl⟩ := own_isSl o6
        clear o6 e6 g6 nWt nX
        refine hK.out _ _ ?_ (fun hHeld => ?_)
        · try dsimp only
          exact XB6.out.c12
        clear hK K
        try simp only [Act.put, List.getElem_toArray, List.getElem_cons_zero, List.getElem_cons_succ, List.setIfInBounds_toArray, List.set_cons_zero, List.set_cons_succ]
        refine wpAnyH_take (i := 8) (v := ?_) rfl (by kernel_rfl) (by kernel_rfl) (by kernel_rfl) (fun _ _ _ h => h) (Or.inl ⟨by rfl, ?_⟩) (by assumption) ?_
        rotate_left
        · intro w0 hSw
          (try dsimp only at hSw)
          go_simp
          try with_reducible rfl
        try simp only [Act.put, List.getElem_toArray, List.getElem_cons_zero, List.getElem_cons_succ, List.setIfInBounds_toArray, List.set_cons_zero, List.set_cons_succ]
        refine wpAnyH_take (i := 9) (v := ?_) rfl (by kernel_rfl) (by kernel_rfl) (by kernel_rfl) (fun _ _ _ h => h) (Or.inl ⟨by rfl, ?_⟩) (by assumption) ?_
        rotate_left
        · intro w0 hSw
          (try dsimp only at hSw)
          go_simp
          try with_reducible rfl
        try simp only [Act.put, List.getElem_toArray, List.getElem_cons_zero, List.getElem_cons_succ, List.setIfInBounds_toArray, List.set_cons_zero, List.set_cons_succ]
        refine wpAnyH_ready (rs := [10]) (by kernel_rfl) (by simp) ?_
        refine AllReadyH.cons rfl (fun K hK => ?_) AllReadyH.nil
        go_simp
        refine hK.out _ _ ?_ (fun hHeld => ?_)
        · try dsimp only
          exact (Blk.far XB6.out (a := ⟨R, 3, none⟩) nRx' _).c12
        clear hK K
        try simp only [Act.put, List.getElem_toArray, List.getElem_cons_zero, List.getElem_cons_succ, List.setIfInBounds_toArray, List.set_cons_zero, List.set_cons_succ]
        refine wpAnyH_done (by kernel_rfl) ?_ _
        go_wp2_with fail
        go_meet
        have hHS := HS5.out
        have hw0 := HW0.out
        have hown : ∀ i, (Value.slice va vl vc).ownBlock = some i → κ4 i = .tr ∨ i = w5.heap.size := fun i hi => by rcases E6.out with h | h; exact .inl (HOB.out i (h ▸ hi)); rw [h] at hi; exact .inr (Option.some.inj hi).symm
        refine ⟨kdR κ4 (.slice va vl vc), .slice va vl vc, H5.out.traced es HES.out HOB.out (HEV.out.keep (K := fun _ => False) (Below.keeps B5.out) (fun _ _ => id) (fun _ => id)) ⟨pk, pa, pn, ca, xa⟩ (.slice sa sl sc) (.slice ta tl tc) (RD1.out.below B5.out) (RD2.out.below B5.out) KN4.out KG.out O6.out E6.out, fun i hi => ?_, ?_, Blk.far XB6.out (a := ⟨R, 3, none⟩) nRx' _, ?_, ?_, Blk.far RB6.out (a := ⟨R, 3, none⟩) (show w.heap.size + 1 ≠ R by have := RL.out; omega) _, ?_⟩
        · unfold kdR
          split
          · rename_i e
            rcases hown i e with h | h
            · rw [← K4.out i hi]; exact h.symm
            · omega
          · exact K4.out i hi
        · unfold kdR
          rw [if_neg]
          · exact N41.out
          · intro e
            rcases hown _ e with h | h
            · rw [N41.out] at h; cases h
            · omega
        · refine ((RD1.out.below B5.out).keep KG.out fun _ i hi => NX.out i (by rw [KN4.out i (.inl hi)]; nofun)).keep (Keep.setCell (M := (· = R)) (Keep.refl _ _) (p := ⟨R, 3, none⟩) (.inl rfl) _) fun _ i hi h => ?_
          have h1 := KN4.out i (.inl hi)
          rw [show i = R from h, H4.out.kR] at h1
          cases h1
        · refine ((RD2.out.below B5.out).keep KG.out fun _ i hi => NX.out i (by rw [KN4.out i (.inr hi)]; nofun)).keep (Keep.setCell (M := (· = R)) (Keep.refl _ _) (p := ⟨R, 3, none⟩) (.inl rfl) _) fun _ i hi h => ?_
          have h1 := KN4.out i (.inr hi)
          rw [show i = R from h, H4.out.kR] at h1
          cases h1
        · refine Keep.setCell ((KP4.out.trans (Below.keeps B5.out)).then KG.out (fun i hi h => ?_)) (p := ⟨R, 3, none⟩) (.inl (by show κ R ≠ .no; rw [H.out.kR]; nofun)) _
          have h1 := HOB.out i h
          rw [K4.out i hi] at h1
          show κ i ≠ .no
          rw [h1]
          nofun
    case rest =>
      obtain ⟨κ', tv', h6, k6, n6, x6, s6, t6, r6, kp6⟩ := hcut
      have H6 := Lib.hid h6
      have K6 := Lib.hid k6
      have N6 := Lib.hid n6
      have S6 := Lib.hid s6
      have T6 := Lib.hid t6
      have R6 := Lib.hid r6
      have KP6 := Lib.hid kp6
      have RL6 := Lib.hid r6.lt
      clear g0 g1 g2 g3 g4 g5 g6 g7 g8 g9 g10 g11 WC WF
      obtain ⟨g0, g1, g2, g3, g4, g5, g6, g7, g8, g9, g10, g11⟩ := x6.c12
      obtain ⟨f0, f1, f2, f3, f4, f5, f6, f7, f8, f9, f10, f11⟩ := r6.f12
      obtain ⟨y0, y1, y2, y3, y4, y5, y6, y7, y8, y9, y10, y11⟩ := r6.c12
      clear h6 k6 n6 x6 s6 t6 r6 kp6
      go_wp2
      refine bodyPost_ret (v := .tuple #[evV pk pa pn ca (.slice sa sl sc) xa (.slice ta tl tc), .int .i64 0]) (res_ev2 (q := w.heap.size + 1) (c := ca) (x := xa) rfl rfl rfl ?_) rfl ?_
      · exact ((((((((((((R6.out.set 0 (.int .i64 pk)).set 1 (.int .i64 pa)).set 2 (.int .i64 pn)).set 3 (.int .i64 ca.k)).set 4 (.int .i64 ca.a)).set 5 (.int .i64 ca.n)).set 6 (.int .u64 ca.v)).set 7 (.int .u64 ca.x)).set 8 (.slice sa sl sc)).set 9 (.int .u64 xa.v)).set 10 (.bool xa.d)).set 11 (.slice ta tl tc))
      · rw [HP4.out]
        have k9 : ∀ w9, Keep (· = w.heap.size + 1) wc w9 → RpPost w κ R bb (.slice ja J.length jcap) N J.length ({ S1 with tr := S1.tr ++ [⟨pk, pa, pn, ca, xa⟩] }, ⟨pk, pa, pn, ca, xa⟩, 0) (.returned (.tuple #[evV pk pa pn ca (.slice sa sl sc) xa (.slice ta tl tc), .int .i64 0])) w9 := fun w9 k9 =>
          ⟨sa, sl, sc, ta, tl, tc, rfl, S6.out.keep k9 (fun h => S6.out.apart h R6.out (by decide)), T6.out.keep k9 (fun h => T6.out.apart h R6.out (by decide)), κ', tv', J4, H6.out.keep k9 (fun i hi e => hi (by rw [show i = w.heap.size + 1 from e]; exact N6.out)), K6.out, LN4.out, LEN4.out, KP6.out.then k9 (fun i hi e => by have e : i = w.heap.size + 1 := e; omega)⟩
        refine k9 _ ?_
        iterate 12 (refine Keep.setCell (M := (· = w.heap.size + 1)) ?_ (Or.inl rfl) _)
        exact Keep.refl _ _
end Go.Proofs.Ytknahaaefmlcpaa
