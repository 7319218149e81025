/- Contract of sched.World.Robin. Conditions: as it says. Contracts of sched.World's tick and of every Pick. -/
import Derived.Test.YtggjhleomocojaaGreatSi
section
namespace Go.Proofs.YtggjhleomocojaaGreat
set_option maxRecDepth 100000
open Go.RowKit
set_option linter.unusedVariables false
set_option linter.unusedSimpArgs false
theorem stepA_facts (M : Mac) (S : SW M.σ) (i : Nat) (a : Ac M.σ) : (M.stepA S i a).1.tr = S.tr ∧ (M.stepA S i a).1.acts.length = S.acts.length ∧ S.cnt ≤ (M.stepA S i a).1.cnt ∧ (M.stepA S i a).1.cnt ≤ S.cnt + 1 := by
 unfold Mac.stepA
 cases a.m with
 | none => exact ⟨rfl, rfl, by dsimp only; omega, by dsimp only; omega⟩
 | some s =>
  simp only []
  split
  ·exact ⟨rfl, rfl, by dsimp only; omega, by dsimp only; omega⟩
  split
  ·exact ⟨rfl, by simp, by dsimp only; omega, by dsimp only; omega⟩
  ·exact ⟨rfl, by simp, by dsimp only; omega, by dsimp only; omega⟩
theorem act_facts (M : Mac) (S : SW M.σ) (k a : Int) : (M.act S k a).1.tr = S.tr ∧ (M.act S k a).1.acts.length = S.acts.length ∧ S.cnt ≤ (M.act S k a).1.cnt ∧ (M.act S k a).1.cnt ≤ S.cnt + 1 := by
 unfold Mac.act
 split
 ·exact ⟨rfl, rfl, by dsimp only; omega, by dsimp only; omega⟩
 cases S.acts[a.toNat]? with
 | none => exact ⟨rfl, rfl, by dsimp only; omega, by dsimp only; omega⟩
 | some c =>
  simp only []
  split
  ·exact ⟨rfl, rfl, by dsimp only; omega, by dsimp only; omega⟩
  split
  ·exact ⟨rfl, by simp, by dsimp only; omega, by dsimp only; omega⟩
  ·exact stepA_facts M S _ c
theorem pick_facts (M : Mac) (S : SW M.σ) (k a n : Int) : (M.pick S k a n).1.tr.length ≤ S.tr.length + 1 ∧ (M.pick S k a n).1.acts.length = S.acts.length ∧ S.cnt ≤ (M.pick S k a n).1.cnt ∧ (M.pick S k a n).1.cnt ≤ S.cnt + 1 := by
 have h := act_facts M S k a
 unfold Mac.pick
 split
 ·split
  ·have ht : (M.tick S n).1.acts = S.acts ∧ (M.tick S n).1.cnt = S.cnt := by
    unfold Mac.tick
    split <;> exact ⟨rfl, rfl⟩
   exact ⟨by simp, by simp [ht.1], by dsimp only; rw [ht.2]; omega, by dsimp only; rw [ht.2]; omega⟩
  ·exact ⟨by dsimp only; omega, rfl, by dsimp only; omega, by dsimp only; omega⟩
 split
 ·split
  ·exact ⟨by simp [h.1], h.2.1, h.2.2.1, h.2.2.2⟩
  ·exact ⟨by simp [h.1], h.2.1, h.2.2.1, h.2.2.2⟩
 ·exact ⟨by dsimp only; omega, rfl, by dsimp only; omega, by dsimp only; omega⟩
theorem want_len {M : Mac} {s : M.σ} (hwf : (M.want s).wf) {bs : List Int} (he : (M.want s).err bs.length = 0) : ((M.want s).ans bs).b.length ≤ 8 := by
 obtain ⟨hz, h0, h1, h2, h3, h4, h5⟩ := acE_ok he (by omega)
 have := doR_len bs (M.want s).k (M.want s).a.toNat (M.want s).n.toNat
 unfold AA.ans
 simp only []
 omega
variable {C : Fam} {w : World} {κ : Nat → Kd} {W p c : Nat} {av tv : Value} {ab : Nat → Nat}
theorem WoIn.actLen {S : SW C.M.σ} (h : WoIn C w κ W p c av tv ab S) (k a : Int) : (C.M.act S k a).2.1.1.b.length ≤ 70368744177664 ∧ (C.M.act S k a).2.1.2.b.length ≤ 70368744177664 := by
 unfold Mac.act
 split
 ·simp [aaZ, anZ]
 cases hc : S.acts[a.toNat]? with
 | none => simp [aaZ, anZ]
 | some c =>
  simp only []
  split
  ·simp [aaZ, anZ]
  split
  ·simp [aaZ, anZ]
  unfold Mac.stepA
  cases hm : c.m with
  | none => simp [aaZ, anZ]
  | some s =>
   simp only []
   obtain ⟨_, mv, _, hmc⟩ := h.act _ c hc
   rw [hm] at hmc
   obtain ⟨q, _, hi⟩ := hmc
   have hwf := C.wf hi
   split
   ·simp [aaZ, anZ]
   split
   ·rename_i he
    have h1 := hwf.bl
    have h2 := want_len hwf he
    exact ⟨by simp only []; omega, by simp only []; omega⟩
   ·simp [aaZ, anZ]
theorem aNext_any {F : Nat → Prop} {b : Nat} {a : Ac C.M.σ} (h : AcIn C w F b a) :
  Calls Tryz.prog 39 #[.pointer (some ⟨b, 0, none⟩)] w fun e w' => ∃ x s0 sl sc, e = .returned (.tuple #[AA.V x (.slice s0 sl sc), .bool (C.M.lives a)]) ∧ Below w.heap.size w w' := by
 obtain ⟨mv, hb, hm⟩ := h
 cases hm' : a.m with
 | none =>
  rw [hm'] at hm
  obtain rfl : mv = .nilIface := hm
  refine (aNext_nil b _ w hb).mono ?_
  rintro e w' ⟨rfl, hb⟩
  exact ⟨aaZ, _, _, _, by rw [show C.M.lives a = false by simp [Mac.lives, hm']], hb⟩
 | some s =>
  rw [hm'] at hm
  obtain ⟨q, rfl, hi⟩ := hm
  refine (aNext_some C F b q _ s w hb hi).mono ?_
  rintro e w' ⟨s0, sl, sc, rfl, hr, hb⟩
  exact ⟨_, _, _, _, by rw [show C.M.lives a = C.M.live s by simp [Mac.lives, hm']], hb⟩
theorem wPick_step {S : SW C.M.σ} (h : WoIn C w κ W p c av tv ab S) (pa pn : Int) (hc0 : 0 ≤ S.cnt) (hc1 : S.cnt ≤ 4611686018427387904) (htr : S.tr.length ≤ 1000000) :
  Calls Tryz.prog 23 #[.pointer (some ⟨W, 0, none⟩), .agg #[.int .i64 0, .int .i64 pa, .int .i64 pn]] w (PickPost C w κ W p c av tv ab (C.M.pick S 0 pa pn)) :=
 wPick_act h 0 pa pn (.inl rfl) hc0 hc1 htr (h.actLen 0 pa) (act_facts C.M S 0 pa).1
def RobPost (C : Fam) (w : World) (κ : Nat → Kd) (W p c : Nat) (av : Value) (ab : Nat → Nat) (R : SW C.M.σ × Int) (e : Ending) (w' : World) : Prop :=
 e = .returned (.int .i64 R.2) ∧ ∃ κ' tv', WoIn C w' κ' W p c av tv' ab R.1 ∧ (∀ i, i < w.heap.size → κ' i = κ i) ∧ Keep (fun i => κ i ≠ .no) w w'
structure RobAt (C : Fam) (w : World) (κ : Nat → Kd) (W p c : Nat) (av : Value) (ab : Nat → Nat) (S0 : SW C.M.σ) (most : Int) (wr : World) (S : SW C.M.σ) (n : Int) : Prop where
 ex : ∃ κ1 tv1, WoIn C wr κ1 W p c av tv1 ab S ∧ (∀ i, i < w.heap.size → κ1 i = κ i)
 kp : Keep (fun i => κ i ≠ .no) w wr
 n0 : 0 ≤ n
 n1 : n ≤ max most 0
 c0 : S0.cnt ≤ S.cnt
 c1 : S.cnt ≤ S0.cnt + n
 t1 : (S.tr.length : Int) ≤ S0.tr.length + n
 le : S.acts.length = S0.acts.length
def bN : Value → Nat
 | .bool true => 1
 | _ => 0
theorem row_drop (M : Mac) (most : Int) (len j : Nat) (hj : j < len) (S : SW M.σ) (n : Int) (g : Bool) : M.row most ((List.range len).drop j) S n g =
  if M.goesAt S j = false then M.row most ((List.range len).drop (j + 1)) S n g else if most ≤ n then (S, n, g, true) else M.row most ((List.range len).drop (j + 1)) (M.pick S 0 j 0).1 (n + 1) true := by
 rw [List.drop_eq_getElem_cons (by simpa using hj), Mac.row]
 simp
set_option maxHeartbeats 1000000 in
theorem wRobin_row {S : SW C.M.σ} (h : WoIn C w κ W p c av tv ab S) (most : Int) (hm : most ≤ 900000) (hc0 : 0 ≤ S.cnt) (hc1 : S.cnt ≤ 1000000000000) (htr : S.tr.length ≤ 50000) (ga len gc : Nat) (hav : av = .slice (some ⟨ga, 0, none⟩) len gc) (hl : len = S.acts.length) (hl1 : len ≤ 1000000) :
  Calls Tryz.prog 12 #[.pointer (some ⟨W, 0, none⟩), .int .i64 most] w (RobPost C w κ W p c av ab (C.M.robin most S)) := by
 have A0 := Lib.hid (show RobAt C w κ W p c av ab S most w S 0 from ⟨⟨κ, tv, h, fun _ _ => rfl⟩, Keep.refl _ _, by omega, by omega, by omega, by omega, by omega, rfl⟩)
 have WL := Lib.hid h.hd.lt
 have HL := Lib.hid hl
 subst hav
 clear h hl
 go_enter Tryz.func12, Tryz.ntmps12
 go_wp2_with fail
 go_loopw [5, 6] (fun nv gv wr => ∃ (S1 : SW C.M.σ) (n : Int) (g : Bool) (f : Nat), nv = .int .i64 n ∧ gv = .bool g ∧ RobAt C w κ W p c (.slice (some ⟨ga, 0, none⟩) len gc) ab S most wr S1 n ∧ (g = true → C.M.rob most f S1 n = C.M.robin most S ∧ most + 2 ≤ f + n ∧ 1 ≤ f) ∧ (g = false → (S1, n) = C.M.robin most S)) (fun nv gv _ => most.toNat + 1 - (intOf nv).toNat + bN gv)
 case atStart => exact ⟨S, 0, true, most.toNat + 2, rfl, rfl, A0.out, fun _ => ⟨rfl, by omega, by omega⟩, (fun h => by cases h)⟩
 case round =>
  obtain ⟨S1, n, g, f, rfl, rfl, hA, hg1, hg2⟩ := hrel
  have HA := Lib.hid hA
  have HG1 := Lib.hid hg1
  have HG2 := Lib.hid hg2
  have hn0 := hA.n0
  have hn1 := hA.n1
  have ht1 := hA.t1
  obtain ⟨κ1, tv1, hWo, hκ1⟩ := hA.ex
  have hc1 := hWo.cells.2.1
  clear hA hg1 hg2 hWo hκ1
  cases g with
  | false =>
   go_wp2
   go_ret
   obtain ⟨κ2, tv2, h1, h2⟩ := HA.out.ex
   rw [← HG2.out (by trivial)]
   exact ⟨rfl, κ2, tv2, h1, h2, HA.out.kp⟩
  | true =>
   obtain ⟨hrob, hf, hf1⟩ := HG1.out rfl
   have HROB := Lib.hid hrob
   clear hrob
   go_wp2_with fail
   obtain ⟨wo, rfl⟩ : ∃ wo : World, wo = wr := ⟨_, rfl⟩
   go_loopw [5, 6, 19] (fun nv gv iv wr => ∃ (S2 : SW C.M.σ) (n2 : Int) (g2 : Bool) (j : Nat), nv = .int .i64 n2 ∧ gv = .bool g2 ∧ iv = .int .i64 j ∧ j ≤ len ∧ RobAt C w κ W p c (.slice (some ⟨ga, 0, none⟩) len gc) ab S most wr S2 n2 ∧ C.M.row most ((List.range len).drop j) S2 n2 g2 = C.M.row most (List.range S1.acts.length) S1 n false ∧ n ≤ n2 ∧ (g2 = true → n + 1 ≤ n2)) (fun _ _ iv _ => len - (intOf iv).toNat)
   case atStart => exact ⟨S1, n, false, 0, rfl, rfl, rfl, by omega, HA.out, by rw [HA.out.le, ← HL.out]; rfl, by omega, fun h => by cases h⟩
   case round =>
    obtain ⟨S2, n2, g2, j, rfl, rfl, rfl, hj, hA2, hrow, hn2, hg2⟩ := hrel
    have HA2 := Lib.hid hA2
    have HROW := Lib.hid hrow
    have HG := Lib.hid hg2
    have hn20 := hA2.n0
    have hn21 := hA2.n1
    have ht2 := hA2.t1
    obtain ⟨κ2, tv2, hWo, hκ2⟩ := hA2.ex
    have HW := Lib.hid hWo
    have HK2 := Lib.hid hκ2
    have hle := hA2.le
    clear hA2 hrow hg2 hWo hκ2
    by_cases hlt : j < len
    ·have hjl : j < S2.acts.length := by rw [hle, ← HL.out]; exact hlt
     obtain ⟨g', cap, e, _, _, _, hcells⟩ := HW.out.rowAt hjl
     have hcj := hcells j hjl
     obtain ⟨a, ha⟩ : ∃ a, S2.acts[j]? = some a := ⟨_, List.getElem?_eq_getElem hjl⟩
     have eg : g' = ga := by cases e; rfl
     subst eg
     clear hcells e
     have HAct := Lib.hid (HW.out.act j a ha)
     have HGo := Lib.hid (show C.M.goesAt S2 j = C.M.goes a by unfold Mac.goesAt; rw [ha])
     have y1 : wr.cell? ⟨ab j, 1, none⟩ = some (.bool a.dead) := by
      obtain ⟨_, mv, hb, _⟩ := HAct.out
      exact hb.cell 1
     have hbl : ab j < wr.heap.size := HW.out.actLt ha
     have key := aNext_any HAct.out.2
     by_cases hlv : C.M.lives a = false
     ·rw [hlv] at key
      have KEY := Lib.hid key
      have HLV := Lib.hid hlv
      clear key hlv
      go_wp2_with fail
      refine KEY.out.mono ?_
      rintro e w' ⟨x, s0, sl, sc, rfl, b⟩
      unfold AA.V
      dsimp only
      have z := b.size
      go_wp2
      refine ⟨⟨S2, n2, g2, j + 1, rfl, rfl, by go_num, by omega, ⟨⟨κ2, tv2, HW.out.below (b.alloc b.size _), HK2.out⟩, HA2.out.kp.trans (Below.keeps (b.alloc b.size _)), HA2.out.n0, HA2.out.n1, HA2.out.c0, HA2.out.c1, HA2.out.t1, HA2.out.le⟩, ?_, hn2, HG.out⟩, by simp [intOf]; omega⟩
      rw [← HROW.out, row_drop _ _ _ _ hlt, if_pos]
      rw [HGo.out]
      simp [Mac.goes, HLV.out]
     ·have hlv' : C.M.lives a = true := by simpa using hlv
      rw [hlv'] at key
      have KEY := Lib.hid key
      have HLV := Lib.hid hlv'
      clear key hlv hlv'
      by_cases hd : a.dead = true
      ·rw [hd] at y1
       have HD := Lib.hid hd
       clear hd
       go_wp2_with fail
       refine KEY.out.mono ?_
       rintro e w' ⟨x, s0, sl, sc, rfl, b⟩
       unfold AA.V
       dsimp only
       have z := b.size
       have y2 := (b.cell (p := ⟨ab j, 1, none⟩) hbl).trans y1
       have hbl2 : ab j < w'.heap.size := by omega
       go_wp2
       refine ⟨⟨S2, n2, g2, j + 1, rfl, rfl, by go_num, by omega, ⟨⟨κ2, tv2, HW.out.below (b.alloc b.size _), HK2.out⟩, HA2.out.kp.trans (Below.keeps (b.alloc b.size _)), HA2.out.n0, HA2.out.n1, HA2.out.c0, HA2.out.c1, HA2.out.t1, HA2.out.le⟩, ?_, hn2, HG.out⟩, by simp [intOf]; omega⟩
       rw [← HROW.out, row_drop _ _ _ _ hlt, if_pos]
       rw [HGo.out]
       simp [Mac.goes, HD.out]
      ·have hd' : a.dead = false := by simpa using hd
       rw [hd'] at y1
       have HGT := Lib.hid (show C.M.goesAt S2 j = true by rw [HGo.out]; simp [Mac.goes, HLV.out, hd'])
       clear hd hd'
       by_cases hmn : most ≤ n2
       ·go_wp2_with fail
        refine KEY.out.mono ?_
        rintro e w' ⟨x, s0, sl, sc, rfl, b⟩
        unfold AA.V
        dsimp only
        have z := b.size
        have y2 := (b.cell (p := ⟨ab j, 1, none⟩) hbl).trans y1
        have hbl2 : ab j < w'.heap.size := by omega
        go_wp2
        go_ret
        have hR : C.M.robin most S = (S2, n2) := by
         have hr := HROW.out
         rw [row_drop _ _ _ _ hlt, if_neg (by rw [HGT.out]; nofun), if_pos hmn] at hr
         rw [← HROB.out]
         obtain ⟨f', rfl⟩ : ∃ f', f = f' + 1 := ⟨f - 1, by omega⟩
         unfold Mac.rob
         rw [← hr, if_neg (by simp)]
        rw [hR]
        exact ⟨rfl, κ2, tv2, HW.out.below (b.alloc b.size _), HK2.out, HA2.out.kp.trans (Below.keeps (b.alloc b.size _))⟩
       ·have hmn' : (most ≤ n2) = False := by simp [hmn]
        have hcc0 := HA2.out.c0
        have hcc1 := HA2.out.c1
        go_wp2_with fail
        refine KEY.out.mono ?_
        rintro e w' ⟨x, s0, sl, sc, rfl, b⟩
        unfold AA.V
        dsimp only
        have z := b.size
        have y2 := (b.cell (p := ⟨ab j, 1, none⟩) hbl).trans y1
        have hbl2 : ab j < w'.heap.size := by omega
        have HW' := Lib.hid (HW.out.below (b.alloc b.size (.cells #[.int .i64 x.k, .int .i64 x.a, .int .i64 x.n, .int .u64 x.v, .int .u64 x.x, .slice s0 sl sc] 72)))
        have KP' := Lib.hid (HA2.out.kp.trans (Below.keeps (b.alloc b.size (.cells #[.int .i64 x.k, .int .i64 x.a, .int .i64 x.n, .int .u64 x.v, .int .u64 x.x, .slice s0 sl sc] 72))))
        go_wp2_with fail
        refine (wPick_step HW'.out j 0 (by omega) (by omega) (by omega)).mono ?_
        rintro e w7 ⟨s0, sl, sc, t0, tl, tc, rfl, o1, o2, κ', tv', hW', hk', hno, kp'⟩
        have hpf := pick_facts C.M S2 0 j 0
        have zz := KP'.out.size
        have PK := Lib.hid (show RobAt C w κ W p c (.slice (some ⟨g', 0, none⟩) len gc) ab S most w7 (C.M.pick S2 0 j 0).1 (n2 + 1) from
         ⟨⟨κ', tv', hW', fun i hi => by rw [hk' i (by omega)]; exact HK2.out i hi⟩, KP'.out.then kp' (fun i hi h => by rw [← HK2.out i hi]; exact h), by omega, by omega, by omega, by omega, by omega, by rw [hpf.2.1]; exact HA2.out.le⟩)
        clear hW' hk' hno kp' hpf o1 o2
        unfold evV
        go_wp2
        refine ⟨⟨_, n2 + 1, true, j + 1, rfl, rfl, by go_num, by omega, PK.out, ?_, by omega, fun _ => by omega⟩, by simp [intOf]; omega⟩
        rw [← HROW.out, row_drop _ _ _ _ hlt, if_neg (by rw [HGT.out]; nofun), if_neg (by omega)]
    ·obtain rfl : j = len := by omega
     have hr : C.M.row most (List.range S1.acts.length) S1 n false = (S2, n2, g2, false) := by
      rw [← HROW.out, List.drop_of_length_le (by simp)]
      rfl
     have HR := Lib.hid hr
     clear hr
     go_wp2
     obtain ⟨f', rfl⟩ : ∃ f', f = f' + 1 := ⟨f - 1, by omega⟩
     have hrb := HROB.out
     unfold Mac.rob at hrb
     rw [HR.out] at hrb
     cases g2 with
     | true =>
      have := HG.out (by trivial)
      rw [if_pos (by simp)] at hrb
      exact ⟨⟨S2, n2, true, f', rfl, rfl, HA2.out, fun _ => ⟨hrb, by omega, by omega⟩, (fun h => by cases h)⟩, by simp [intOf, bN]; omega⟩
     | false =>
      rw [if_neg (by simp)] at hrb
      exact ⟨⟨S2, n2, false, 0, rfl, rfl, HA2.out, (fun h => by cases h), fun _ => hrb⟩, by simp [intOf, bN]; omega⟩
theorem robin_none (M : Mac) (S : SW M.σ) (most : Int) (h0 : S.acts.length = 0) : M.robin most S = (S, 0) := by
 unfold Mac.robin Mac.rob
 have e : M.row most (List.range S.acts.length) S 0 false = (S, 0, false, false) := by rw [h0]; rfl
 rw [e, if_neg (by simp)]
set_option maxHeartbeats 1000000 in
theorem wRobin_none {S : SW C.M.σ} (h : WoIn C w κ W p c av tv ab S) (most : Int) (h0 : S.acts.length = 0) :
  Calls Tryz.prog 12 #[.pointer (some ⟨W, 0, none⟩), .int .i64 most] w (RobPost C w κ W p c av ab (C.M.robin most S)) := by
 rw [robin_none _ _ _ h0]
 have H := Lib.hid h
 obtain ⟨va, vc, rfl, _⟩ := h.avSl
 have hc1 := h.cells.2.1
 rw [h0] at hc1
 clear h
 go_enter Tryz.func12, Tryz.ntmps12
 go_wp2_with fail
 go_loopw [5, 6] (fun nv gv wr => nv = .int .i64 0 ∧ (gv = .bool true ∨ gv = .bool false) ∧ wr = w) (fun _ gv _ => bN gv)
 case atStart => exact ⟨rfl, .inl rfl, rfl⟩
 case round =>
  obtain ⟨rfl, hg, rfl⟩ := hrel
  rcases hg with rfl | rfl
  ·go_wp2_with fail
   refine wp_loop_rounds 1 ?_
   rw [rounds_succ]
   go_wp2
   exact ⟨⟨by trivial, by simp, by trivial⟩, by simp [bN]⟩
  ·go_wp2
   go_ret
   exact ⟨rfl, κ, tv, H.out, fun _ _ => rfl, Keep.refl _ _⟩
theorem wRobin_any {S : SW C.M.σ} (h : WoIn C w κ W p c av tv ab S) (most : Int) (hm : most ≤ 900000) (hc0 : 0 ≤ S.cnt) (hc1 : S.cnt ≤ 1000000000000) (htr : S.tr.length ≤ 50000) (hl : S.acts.length ≤ 1000000) :
  Calls Tryz.prog 12 #[.pointer (some ⟨W, 0, none⟩), .int .i64 most] w (RobPost C w κ W p c av ab (C.M.robin most S)) := by
 by_cases h0 : S.acts.length = 0
 ·exact wRobin_none h most h0
 ·obtain ⟨g, cap, e, _⟩ := h.rowAt (n := 0) (by omega)
  exact wRobin_row h most hm hc0 hc1 htr g _ cap e rfl hl
theorem list_app1 {ops : Array Oper} {rest : List Oper} {o : Oper} {a : Act} {Q : Exit → Act → World → Prop} (hgd : o.guard = none) (s x : Operand) (T E : TypeId)
  (ho : o.op = .call { callee := .builtin .append, args := #[s, x], argTypes := #[T, T] }) {i : TypeInfo} {z : Value} {size bytes : Nat} (ht : Tryz.prog.underlying T = some (.slice E)) (hi : Tryz.prog.info? E = some i) (hz : i.zero = some z) (hsize : i.size = size) (hby : i.bytes = bytes) (hzs : z.cells.size = size) (hsz : 0 < size)
  (v : Value) (n : Nat) (xs : List Value) (hs : a.eval s = v) (hown : w.ownsRow 0 E size v n xs) (g : Nat) (news : List Value) (hx : a.eval x = .slice (some ⟨g, 0, none⟩) 1 1) (hb : Blk w g news) (hl : news.length = size) (h1 : ∀ u ∈ news, u.oneCell' = true) (hn : (n + 1) * bytes ≤ 140737488355328) (hm : n + 1 ≤ maxLen)
  (h : ∀ v' w', w'.ownsRow 0 E size v' (n + 1) (xs ++ news) → w.grownBy w' v.ownBlock → (v'.ownBlock = v.ownBlock ∨ v'.ownBlock = some w.heap.size) → wpList Tryz.prog ops Q rest (a.put o.dst v') w') : wpList Tryz.prog ops Q (o :: rest) a w :=
 wpList_plain hgd fun _ hK => wp_app1 s x T E ho ht hi hz hsize hby hzs hsz v n xs hs hown g news hx hb hl h1 hn hm fun v' w' h2 h3 h4 => hK _ _ (h v' w' h2 h3 h4)
theorem actinfo : (Tryz.prog.info? 120).map (fun i => (i.zero, i.size, i.bytes)) = some (some (.pointer none), 1, 8) := by kernel_rfl
def actP (ab : Nat → Nat) (k : Nat) : List Value := (List.range k).map fun i => .pointer (some ⟨ab i, 0, none⟩)
theorem actP_succ (ab : Nat → Nat) (k x : Nat) : actP (fun i => if i = k then x else ab i) (k + 1) = actP ab k ++ [.pointer (some ⟨x, 0, none⟩)] := by
 unfold actP
 rw [List.range_succ, List.map_append]
 congr 1
 ·apply List.map_congr_left
  intro i hi
  have : i < k := by simpa using hi
  simp only []
  rw [if_neg (by omega)]
 ·simp
structure RowTo (w : World) (W : Nat) (av : Value) (ab : Nat → Nat) (mv : Nat → Value) (k : Nat) : Prop where
 own : w.ownsRow 0 120 1 av k (actP ab k)
 ne : ∀ g, av.ownBlock = some g → W < g
 blk : ∀ j, j < k → W < ab j ∧ Blk w (ab j) [mv j, .bool false] ∧ av.ownBlock ≠ some (ab j)
 inj : ∀ i j, i < k → j < k → ab i = ab j → i = j
noncomputable def kdN (κ : Nat → Kd) (W : Nat) (av : Value) (ab : Nat → Nat) (n : Nat) : Nat → Kd := fun k => open Classical in if k = W then .wo else if av.ownBlock = some k then .row else if h : ∃ i, i < n ∧ ab i = k then .ac h.choose else κ k
theorem kdN_old {W : Nat} {av : Value} {mv : Nat → Value} {n : Nat} (h : RowTo w W av ab mv n) {i : Nat} (hi : i < W) : kdN κ W av ab n i = κ i := by
 unfold kdN
 rw [if_neg (by omega), if_neg (fun e => by have := h.ne i e; omega), dif_neg]
 rintro ⟨j, hj, e⟩
 have := (h.blk j hj).1
 omega
theorem kdN_ac {W : Nat} {av : Value} {mv : Nat → Value} {n : Nat} (h : RowTo w W av ab mv n) {i : Nat} (hi : i < n) : kdN κ W av ab n (ab i) = .ac i := by
 obtain ⟨h1, h2, h3⟩ := h.blk i hi
 unfold kdN
 have hex : ∃ j, j < n ∧ ab j = ab i := ⟨i, hi, rfl⟩
 rw [if_neg (by omega), if_neg h3, dif_pos hex]
 rw [h.inj _ _ hex.choose_spec.1 hi hex.choose_spec.2]
set_option maxHeartbeats 1000000 in
theorem wNew_any (C : Fam) (w : World) (κ : Nat → Kd) (p c : Nat) (cnt : Int) (bs : List Int) (n : Nat) (mv : Nat → Value) (ms : List (Option C.M.σ)) (g off lc : Nat) (h0 : 0 < n) (hlc : n ≤ lc) (hlm : lc ≤ maxLen) (hBuf : Buf w p c cnt bs) (kp : κ p = .bu) (kc : κ c = .bu) (hn : ms.length = n) (hn1 : n ≤ 1000000)
  (hl : ∀ i, i < n → w.cell? ⟨g, off + i, none⟩ = some (mv i)) (hif : ∀ i, i < n → (mv i).oneCell' = true)
  (hm : ∀ i m, ms[i]? = some m → McIn C w (fun k => κ k = .ma i) (mv i) m) (hall : ∀ k, κ k ≠ .no → k < w.heap.size) (hkd : ∀ k i, κ k ≠ .wo ∧ κ k ≠ .row ∧ κ k ≠ .ac i ∧ κ k ≠ .tr ∧ κ k ≠ .tb) :
  Calls Tryz.prog 11 #[.pointer (some ⟨p, 0, none⟩), .slice (some ⟨g, off, none⟩) n lc] w fun e w' => ∃ W κ' av ab, e = .returned (.pointer (some ⟨W, 0, none⟩)) ∧ WoIn C w' κ' W p c av nilSl ab ⟨bs, cnt, ms.map fun m => ⟨m, false⟩, 0, []⟩ ∧ (∀ i, i < w.heap.size → κ' i = κ i) ∧ w.heap.size ≤ W ∧ Below w.heap.size w w' := by
 obtain ⟨i0, hi, hz0, hz1, hz2⟩ := info_parts actinfo
 have HBuf := Lib.hid hBuf
 have HL := Lib.hid hl
 have HM := Lib.hid hm
 have HA := Lib.hid hall
 have HK := Lib.hid hkd
 have HIF := Lib.hid hif
 have HKP := Lib.hid kp
 have HKC := Lib.hid kc
 have HN := Lib.hid hn
 clear hBuf hl hm hall hkd hif kp kc hn
 go_enter Tryz.func11, Tryz.ntmps11
 go_wp2_with fail
 go_loopw [7, 13] (fun t i wr => ∃ k : Nat, k ≤ n ∧ i = .int .i64 k ∧ ∃ av ab, Blk wr w.heap.size [.pointer (some ⟨p, 0, none⟩), av, .int .i64 0, nilSl] ∧ RowTo wr w.heap.size av ab mv k ∧ Below w.heap.size w wr) (fun _ i _ => n - (intOf i).toNat)
 case atStart =>
  refine ⟨0, by omega, rfl, .slice none 0 0, fun _ => 0, Blk.made w _ _, ⟨World.ownsRow_nil _ _ _ _, (fun g h => by cases h), (fun j h => by omega), (fun i j h => by omega)⟩, by go_grown⟩
 case round =>
  obtain ⟨k, hk, rfl, av, ab, hW, hR, hB⟩ := hrel
  obtain ⟨va, vl, vc, rfl⟩ := own_isSl hR.own
  have hc1 := hW.cell 1
  have hf1 := hW.frozen 1
  simp only [List.getElem?_cons_zero, List.getElem?_cons_succ] at hc1
  have hWlt := hW.lt
  have HW := Lib.hid hW
  have HR := Lib.hid hR
  have HB := Lib.hid hB
  by_cases hlt : k < n
  ·have hcl : wr.cell? ⟨g, off + k, none⟩ = some (mv k) := by
    have h0 := HL.out k hlt
    exact (hB.cell (p := ⟨g, off + k, none⟩) (World.block_lt_of_cell? w _ h0)).trans h0
   have hgl : g < wr.heap.size := Nat.lt_of_lt_of_le (World.block_lt_of_cell? w _ (HL.out k hlt)) hB.size
   have hform : mv k = .nilIface ∨ ∃ T v, mv k = .iface T v := by
    obtain ⟨m, hmk⟩ : ∃ m, ms[k]? = some m := ⟨_, List.getElem?_eq_getElem (by rw [HN.out]; exact hlt)⟩
    have := HM.out k m hmk
    cases m with
    | none => exact .inl this
    | some s =>
     obtain ⟨q, e, _⟩ := this
     exact .inr ⟨_, _, e⟩
   clear hW hR hB
   rcases hform with hmv | ⟨T, v, hmv⟩
   ·rw [hmv] at hcl
    have HMV := Lib.hid hmv
    obtain ⟨w5, hw5⟩ : ∃ w5 : World, w5 = (wr.alloc (Obj.cells #[.nilIface, .bool false] 122)).alloc (Obj.cells #[.pointer (some ⟨wr.heap.size, 0, none⟩)] 120) := ⟨_, rfl⟩
    have hw5' := Lib.hid hw5
    have b5 : Below wr.heap.size wr w5 := by rw [hw5]; go_grown
    have AB := Lib.hid (show Blk w5 wr.heap.size [mv k, .bool false] by rw [hw5, hmv]; exact (Blk.made wr _ _).alloc _)
    have NB := Lib.hid (show Blk w5 (wr.heap.size + 1) [.pointer (some ⟨wr.heap.size, 0, none⟩)] by rw [hw5]; simpa using Blk.made (wr.alloc (Obj.cells #[.nilIface, .bool false] 122)) #[.pointer (some ⟨wr.heap.size, 0, none⟩)] 120)
    have OW := Lib.hid (ownsRow_keep HR.out.own (Below.keeps (M := fun _ => False) b5) (fun _ _ => id))
    have Z5 := Lib.hid (show w5.heap.size = wr.heap.size + 2 by rw [hw5]; simp)
    have B5 := Lib.hid b5
    clear hw5 b5 hmv
    go_wp2_with (refine list_app1 rfl (.tmp 21) (.tmp 25) 116 120 rfl Tryz.underlying116 hi hz0 hz1 hz2 rfl (by decide) (.slice va vl vc) k (actP ab k) rfl (by rw [← hw5'.out]; exact OW.out) (wr.heap.size + 1) [.pointer (some ⟨wr.heap.size, 0, none⟩)] rfl (by rw [← hw5'.out]; exact NB.out) rfl (by simp [Value.oneCell']) (by omega) (by unfold maxLen; omega) ?_)
    rw [← hw5'.out]
    intro v' w6 o6 g6 e6
    clear hw5'
    obtain ⟨xa, xl, xc, rfl⟩ := own_isSl o6
    have KG := grown_keep g6
    have hnew : ∀ j, j < wr.heap.size → (Value.slice va vl vc).ownBlock ≠ some j → (Value.slice xa xl xc).ownBlock ≠ some j := by
     intro j hj hn e
     rcases e6 with h | h
     ·exact hn (h ▸ e)
     ·rw [h] at e
      have e' := Option.some.inj e
      have := Z5.out
      omega
    have nW : ¬ (Value.slice va vl vc).ownBlock = some w.heap.size := fun e => by have := HR.out.ne _ e; omega
    have W6 := Lib.hid ((HW.out.below B5.out hWlt).keep KG nW)
    have nA : ¬ (Value.slice va vl vc).ownBlock = some wr.heap.size := fun e => by have := (World.ownsRow.lt HR.out.own _ e).2; omega
    have AB6 := Lib.hid (AB.out.keep KG nA)
    have hc1' := W6.out.cell 1
    have hf1' := W6.out.frozen 1
    simp only [List.getElem?_cons_zero, List.getElem?_cons_succ] at hc1'
    have O6 := Lib.hid o6
    have E6 := Lib.hid e6
    have KG := Lib.hid KG
    have HNW := Lib.hid hnew
    clear o6 g6 e6 hnew hc1 hf1
    go_wp2
    refine ⟨⟨k + 1, by omega, by go_num, .slice xa xl xc, (fun i => if i = k then wr.heap.size else ab i), W6.out.set 1 _, ⟨?_, ?_, ?_, ?_⟩, ?_⟩, by simp [intOf]; omega⟩
    ·rw [actP_succ]
     exact ownsRow_keep O6.out (Keep.setCell (M := (· = w.heap.size)) (Keep.refl _ _) (p := ⟨w.heap.size, 1, none⟩) (.inl rfl) _) (fun i hi e => HNW.out w.heap.size hWlt nW (e ▸ hi))
    ·intro j hj
     rcases E6.out with h | h
     ·exact HR.out.ne j (h ▸ hj)
     ·rw [h] at hj
      have e' := Option.some.inj hj
      have := Z5.out
      omega
    ·intro j hj
     by_cases hjk : j = k
     ·subst hjk
      refine ⟨by simpa using hWlt, ?_, ?_⟩
      ·simp only [if_true]
       exact AB6.out.far (a := ⟨w.heap.size, 1, none⟩) (by show wr.heap.size ≠ w.heap.size; omega) _
      ·simp only [if_true]
       intro e
       rcases E6.out with h | h
       ·exact nA (h ▸ e)
       ·rw [h] at e
        have e' := Option.some.inj e
        have := Z5.out
        omega
     ·obtain ⟨h1, h2, h3⟩ := HR.out.blk j (by omega)
      simp only [if_neg hjk]
      refine ⟨h1, ?_, HNW.out _ h2.lt h3⟩
      exact ((h2.below B5.out h2.lt).keep KG.out h3).far (a := ⟨w.heap.size, 1, none⟩) (by show ab j ≠ w.heap.size; omega) _
    ·intro i j hi' hj' e
     by_cases h1 : i = k
     ·by_cases h2 : j = k
      ·omega
      ·simp only [h1, if_true, if_neg h2] at e
       have := (HR.out.blk j (by omega)).2.1.lt
       omega
     ·by_cases h2 : j = k
      ·simp only [h2, if_true, if_neg h1] at e
       have := (HR.out.blk i (by omega)).2.1.lt
       omega
      ·simp only [if_neg h1, if_neg h2] at e
       exact HR.out.inj i j (by omega) (by omega) e
    ·refine Below.setCell ?_ (p := ⟨w.heap.size, 1, none⟩) (Nat.le_refl _) _
     exact (HB.out.trans (B5.out.mono HB.out.size)).trans (KG.out.below (by have := Z5.out; omega) (fun i hi e => by have := HR.out.ne i e; omega))
   ·rw [hmv] at hcl
    have HMV := Lib.hid hmv
    obtain ⟨w5, hw5⟩ : ∃ w5 : World, w5 = (wr.alloc (Obj.cells #[.iface T v, .bool false] 122)).alloc (Obj.cells #[.pointer (some ⟨wr.heap.size, 0, none⟩)] 120) := ⟨_, rfl⟩
    have hw5' := Lib.hid hw5
    have b5 : Below wr.heap.size wr w5 := by rw [hw5]; go_grown
    have AB := Lib.hid (show Blk w5 wr.heap.size [mv k, .bool false] by rw [hw5, hmv]; exact (Blk.made wr _ _).alloc _)
    have NB := Lib.hid (show Blk w5 (wr.heap.size + 1) [.pointer (some ⟨wr.heap.size, 0, none⟩)] by rw [hw5]; simpa using Blk.made (wr.alloc (Obj.cells #[.iface T v, .bool false] 122)) #[.pointer (some ⟨wr.heap.size, 0, none⟩)] 120)
    have OW := Lib.hid (ownsRow_keep HR.out.own (Below.keeps (M := fun _ => False) b5) (fun _ _ => id))
    have Z5 := Lib.hid (show w5.heap.size = wr.heap.size + 2 by rw [hw5]; simp)
    have B5 := Lib.hid b5
    clear hw5 b5 hmv
    go_wp2_with (refine list_app1 rfl (.tmp 21) (.tmp 25) 116 120 rfl Tryz.underlying116 hi hz0 hz1 hz2 rfl (by decide) (.slice va vl vc) k (actP ab k) rfl (by rw [← hw5'.out]; exact OW.out) (wr.heap.size + 1) [.pointer (some ⟨wr.heap.size, 0, none⟩)] rfl (by rw [← hw5'.out]; exact NB.out) rfl (by simp [Value.oneCell']) (by omega) (by unfold maxLen; omega) ?_)
    rw [← hw5'.out]
    intro v' w6 o6 g6 e6
    clear hw5'
    obtain ⟨xa, xl, xc, rfl⟩ := own_isSl o6
    have KG := grown_keep g6
    have hnew : ∀ j, j < wr.heap.size → (Value.slice va vl vc).ownBlock ≠ some j → (Value.slice xa xl xc).ownBlock ≠ some j := by
     intro j hj hn e
     rcases e6 with h | h
     ·exact hn (h ▸ e)
     ·rw [h] at e
      have e' := Option.some.inj e
      have := Z5.out
      omega
    have nW : ¬ (Value.slice va vl vc).ownBlock = some w.heap.size := fun e => by have := HR.out.ne _ e; omega
    have W6 := Lib.hid ((HW.out.below B5.out hWlt).keep KG nW)
    have nA : ¬ (Value.slice va vl vc).ownBlock = some wr.heap.size := fun e => by have := (World.ownsRow.lt HR.out.own _ e).2; omega
    have AB6 := Lib.hid (AB.out.keep KG nA)
    have hc1' := W6.out.cell 1
    have hf1' := W6.out.frozen 1
    simp only [List.getElem?_cons_zero, List.getElem?_cons_succ] at hc1'
    have O6 := Lib.hid o6
    have E6 := Lib.hid e6
    have KG := Lib.hid KG
    have HNW := Lib.hid hnew
    clear o6 g6 e6 hnew hc1 hf1
    go_wp2
    refine ⟨⟨k + 1, by omega, by go_num, .slice xa xl xc, (fun i => if i = k then wr.heap.size else ab i), W6.out.set 1 _, ⟨?_, ?_, ?_, ?_⟩, ?_⟩, by simp [intOf]; omega⟩
    ·rw [actP_succ]
     exact ownsRow_keep O6.out (Keep.setCell (M := (· = w.heap.size)) (Keep.refl _ _) (p := ⟨w.heap.size, 1, none⟩) (.inl rfl) _) (fun i hi e => HNW.out w.heap.size hWlt nW (e ▸ hi))
    ·intro j hj
     rcases E6.out with h | h
     ·exact HR.out.ne j (h ▸ hj)
     ·rw [h] at hj
      have e' := Option.some.inj hj
      have := Z5.out
      omega
    ·intro j hj
     by_cases hjk : j = k
     ·subst hjk
      refine ⟨by simpa using hWlt, ?_, ?_⟩
      ·simp only [if_true]
       exact AB6.out.far (a := ⟨w.heap.size, 1, none⟩) (by show wr.heap.size ≠ w.heap.size; omega) _
      ·simp only [if_true]
       intro e
       rcases E6.out with h | h
       ·exact nA (h ▸ e)
       ·rw [h] at e
        have e' := Option.some.inj e
        have := Z5.out
        omega
     ·obtain ⟨h1, h2, h3⟩ := HR.out.blk j (by omega)
      simp only [if_neg hjk]
      refine ⟨h1, ?_, HNW.out _ h2.lt h3⟩
      exact ((h2.below B5.out h2.lt).keep KG.out h3).far (a := ⟨w.heap.size, 1, none⟩) (by show ab j ≠ w.heap.size; omega) _
    ·intro i j hi' hj' e
     by_cases h1 : i = k
     ·by_cases h2 : j = k
      ·omega
      ·simp only [h1, if_true, if_neg h2] at e
       have := (HR.out.blk j (by omega)).2.1.lt
       omega
     ·by_cases h2 : j = k
      ·simp only [h2, if_true, if_neg h1] at e
       have := (HR.out.blk i (by omega)).2.1.lt
       omega
      ·simp only [if_neg h1, if_neg h2] at e
       exact HR.out.inj i j (by omega) (by omega) e
    ·refine Below.setCell ?_ (p := ⟨w.heap.size, 1, none⟩) (Nat.le_refl _) _
     exact (HB.out.trans (B5.out.mono HB.out.size)).trans (KG.out.below (by have := Z5.out; omega) (fun i hi e => by have := HR.out.ne i e; omega))
  ·obtain rfl : k = n := by omega
   clear hW hR hB hlt
   go_wp2
   go_ret
   have hal := HB.out.size
   have nw : ∀ i, kdN κ w.heap.size (.slice va vl vc) ab k i ≠ .no → i < wr.heap.size := by
    intro i hi
    by_cases hk : κ i = .no
    ·unfold kdN at hi
     split at hi
     ·omega
     split at hi
     ·rename_i e
      exact (World.ownsRow.lt HR.out.own i e).2
     split at hi
     ·rename_i e
      obtain ⟨j, hj, rfl⟩ := e
      exact (HR.out.blk j hj).2.1.lt
     ·exact absurd hk hi
    ·have := HA.out i hk
     omega
   refine ⟨w.heap.size, kdN κ w.heap.size (.slice va vl vc) ab k, .slice va vl vc, ab, rfl, ⟨HW.out, ?_, HBuf.out.belows HB.out, ?_, ?_, ?_, ?_, ?_, nw⟩, fun i hi => kdN_old HR.out hi, Nat.le_refl _, HB.out⟩
   ·unfold kdN
    rw [if_pos rfl]
   ·rw [kdN_old HR.out HBuf.out.hd.lt]
    exact HKP.out
   ·rw [kdN_old HR.out HBuf.out.wd.lt]
    exact HKC.out
   ·right
    rcases HR.out.own.2 with ⟨_, e⟩ | ⟨g', cap, cur, e, _, _, h1, h2, _⟩
    ·omega
    ·cases e
     refine ⟨g', vc, by simp [HN.out], by simp [HN.out]; exact h1, h2, ?_, ?_⟩
     ·unfold kdN
      rw [if_neg (by have := HR.out.ne g' rfl; omega)]
      exact if_pos rfl
     ·intro i hi
      have hi' : i < k := by simpa [HN.out] using hi
      have := World.ownsRow.cells HR.out.own rfl i (.pointer (some ⟨ab i, 0, none⟩)) (by simp [actP, hi'])
      have e : (⟨g', 0, none⟩ : Addr).add i = ⟨g', 0 + i, none⟩ := by unfold Addr.add; split <;> simp_all
      rw [e, Nat.zero_add] at this
      exact this
   ·intro i a hia
    simp only [List.getElem?_map] at hia
    obtain ⟨m, hmi, rfl⟩ := Option.map_eq_some_iff.1 hia
    have hi' : i < k := by have := (List.getElem?_eq_some_iff.1 hmi).1; rw [HN.out] at this; exact this
    refine ⟨kdN_ac HR.out hi', mv i, (HR.out.blk i hi').2.1, ?_⟩
    have hmc := HM.out i m hmi
    cases m with
    | none => exact hmc
    | some s2 =>
     obtain ⟨q2, e2, hi2⟩ := hmc
     refine ⟨q2, e2, C.mono (C.keep hi2 (Below.keeps (M := fun _ => False) HB.out) (fun _ _ => id)) ?_ (fun l hl => nw l (by rw [hl]; nofun))⟩
     intro l hl
     have : l < w.heap.size := HA.out l (by rw [hl]; nofun)
     rw [kdN_old HR.out this]
     exact hl
   ·exact ⟨[], rfl, World.ownsRow_nil _ _ _ _, (fun i h => by cases h), ⟨(fun e h => by cases h), (fun e h => by cases h), (fun e h => by cases h), (fun e h => by cases h)⟩⟩
end Go.Proofs.YtggjhleomocojaaGreat
end
