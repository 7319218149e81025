/- The fixed facts of layer 9's law; the law RingfixNil. Conditions: none. -/
import Derived.Test.YtknahaaefmlcpaaGreatFj
import Derived.Test.YtknahaaefmlcpaaGreatQg
import Derived.Lib.SlBytesConst
namespace Go.Proofs.YtknahaaefmlcpaaGreat
set_option maxRecDepth 100000
open Go.RowKit
set_option linter.unusedVariables false
set_option linter.unusedSimpArgs false
theorem Runs.fq {s s' : FixM} {bs bs' : List Int} {n : Nat} (q : Nat) (h : Runs fixMac s bs n s' bs') : Runs fixMacQ (q, s) bs n (q, s') bs' :=
  Runs.lift (M := fixMac) (M' := fixMacQ) (fun s => (q, s)) (fun _ => rfl) (fun _ => rfl) (fun _ _ => rfl) h
def f9i : FixM := FixC.init ⟨0, 64⟩
def f9p : PutM := PutC.init ⟨0, 64, 1, [97, 98]⟩
def f9A : FixM × List Int × Bool := fixMac.runN 2 f9i (List.replicate 96 0)
def f9B : PutM × List Int × Bool := putMac.runN 4 f9p (List.replicate 96 0)
def f9C : FixM × List Int × Bool := fixMac.runN 4 f9i f9B.2.1
theorem f9_facts : (f9A.2.2 = true ∧ f9A.1.live = false ∧ f9A.1.n = 0 ∧ f9A.1.e = 0 ∧ f9A.2.1 = List.replicate 96 0) ∧ f9B.2.2 = true ∧ (f9C.2.2 = true ∧ f9C.1.live = false ∧ f9C.1.n = 10 ∧ f9C.1.e = 0) := by decide +kernel
theorem f9A_runs : Runs fixMac f9i (List.replicate 96 0) 2 f9A.1 f9A.2.1 := runN_runs (M := fixMac) 2 f9i _ f9_facts.1.1
theorem f9B_runs : Runs putMac f9p (List.replicate 96 0) 4 f9B.1 f9B.2.1 := runN_runs (M := putMac) 4 f9p _ f9_facts.2.1
theorem f9C_runs : Runs fixMac f9i f9B.2.1 4 f9C.1 f9C.2.1 := runN_runs (M := fixMac) 4 f9i _ f9_facts.2.2.1
set_option maxHeartbeats 4000000 in
theorem fixed09_any (w : World) : Calls Tryz.prog 19 #[] w fun e w' => e = .returned (.bool true) ∧ Below w.heap.size w w' := by
  have kc := fun (w : World) (C : Array Value) (n c : Nat) => Lib.run_convert_bytes_const (P := Tryz.prog) w 22 5 C n c Tryz.underlying22 Tryz.underlying5
  have FX := Lib.hid f9_facts
  go_enter Tryz.func19, Tryz.ntmps19
  go_wp2_with fail
  refine (mNew_at 96 12 _ (by decide) (by decide) (by decide)).mono ?_
  rintro e w1 ⟨p, c, rfl, hb1, hp, hc, b1⟩
  have HB1 := Lib.hid hb1
  have B1 := Lib.hid b1
  have z1 := b1.size
  clear hb1 b1
  go_upto_region 3 with fail
  obtain ⟨w2, hw2⟩ : ∃ w2, w2 = w1.alloc (.cells #[.int .i64 0, .int .i64 64] 26) := ⟨_, rfl⟩
  have b2 : Below w1.heap.size w1 w2 := by rw [hw2]; go_grown
  have R2 := Lib.hid (show Blk w2 w1.heap.size [.int .i64 0, .int .i64 64] by rw [hw2]; exact Blk.made _ _ _)
  have z2 := b2.size
  have B2 := Lib.hid (B1.out.trans (b2.mono z1))
  have HB2 := Lib.hid (HB1.out.belows b2)
  have lr := R2.out.lt
  have r0 := R2.out.cell 0
  have r1 := R2.out.cell 1
  simp only [List.getElem?_cons_zero, List.getElem?_cons_succ] at r0 r1
  rw [← hw2]
  have lp := HB2.out.hd.lt
  have lc := Blk.lt HB2.out.wd
  have lp1 := HB1.out.hd.lt
  have lc1 := Blk.lt HB1.out.wd
  clear hw2 b2 HB1 B1
  go_wp2_with fail
  refine (fNew_f 0 64 w2 (by decide) (by decide) (by decide) (by decide)).mono ?_
  rintro e w3 ⟨q, rfl, hq, hF, b3⟩
  have z3 := b3.size
  have B3 := Lib.hid (B2.out.trans (b3.mono (by omega)))
  have HB3 := Lib.hid (HB2.out.belows b3)
  have R3 := Lib.hid (R2.out.below b3 lr)
  have HI3 := Lib.hid (show fixFam.inv w3 (fun k => w2.heap.size ≤ k ∧ k < w3.heap.size) q (q, f9i) from ⟨rfl, hF⟩)
  clear hF b3 HB2 B2 r0 r1 R2
  go_wp2_with fail
  obtain ⟨w3a, hw3a⟩ : ∃ w3a, w3a = w3.alloc (Obj.cells #[.iface 69 (.pointer (some ⟨q, 0, none⟩))] 154) := ⟨_, rfl⟩
  have bw3a : Below w3.heap.size w3 w3a := by rw [hw3a]; exact (Below.refl _ _).alloc (Nat.le_refl _) _
  have hgw3a : Blk w3a w3.heap.size [.iface 69 (.pointer (some ⟨q, 0, none⟩))] := by rw [hw3a]; exact Blk.made w3 _ _
  have zw3a : w3.heap.size < w3a.heap.size := by rw [hw3a]; simp
  have HBw3a := Lib.hid (HB3.out.belows bw3a)
  have HIw3a := Lib.hid (fixFam.keep HI3.out (Below.keeps (M := fun _ => False) bw3a) (fun _ _ => id))
  have Bw3a := Lib.hid (B3.out.trans (bw3a.mono (by omega)))
  have HGw3a := Lib.hid hgw3a
  have R3w3a := Lib.hid (R3.out.below bw3a R3.out.lt)
  have lpw3a := HBw3a.out.hd.lt
  have lcw3a := Blk.lt HBw3a.out.wd
  rw [← hw3a]
  clear hw3a bw3a hgw3a HB3 HI3 B3
  refine (soloNew fixFam (F := (fun k => w2.heap.size ≤ k ∧ k < w3.heap.size)) (s := (q, f9i)) HBw3a.out HIw3a.out (by omega) (by omega) HGw3a.out).mono ?_
  rintro e w3b ⟨Ww3a, κw3a, avw3a, abw3a, rfl, hWw3a, hκw3a, hWsw3a, bw3b⟩
  have HWw3a := Lib.hid hWw3a
  have HKw3a := Lib.hid hκw3a
  have BBw3a := Lib.hid bw3b
  have zw3b := bw3b.size
  clear hWw3a hκw3a bw3b
  go_wp2_with fail
  refine (soloRobin fixFam (w0 := w3a) HWw3a.out HKw3a.out BBw3a.out lpw3a lcw3a 99 (by decide) (by decide) (by decide)).mono ?_
  rintro e w3c ⟨rfl, hSw3a⟩
  have hRw3a := robin_upto (M := fixMacQ) 99 (Runs.fq q f9A_runs) (.inl ⟨FX.out.1.2.1, by decide⟩) 0
  have ew3a : (fixFam.M.robin 99 ⟨(List.replicate (8 * 12) 0), 0, [⟨some (q, f9i), false⟩], 0, []⟩).2 = 2 := hRw3a.1
  rw [ew3a]
  obtain ⟨FA, qA, hFA, npA, ncA, hfA⟩ := hSw3a.of hRw3a.2.1
  have HIA := Lib.hid hFA
  have hbA : Buf w3c p c (0 + 2) f9A.2.1 := by
    have h1 := hSw3a.buf
    have h2 : (fixFam.M.robin 99 ⟨(List.replicate (8 * 12) 0), 0, [⟨some (q, f9i), false⟩], 0, []⟩).1.bs = f9A.2.1 := hRw3a.2.2.1
    have h3 : (fixFam.M.robin 99 ⟨(List.replicate (8 * 12) 0), 0, [⟨some (q, f9i), false⟩], 0, []⟩).1.cnt = 0 + 2 := hRw3a.2.2.2
    rw [h2, h3] at h1
    exact h1
  have HBA := Lib.hid hbA
  have kA := hSw3a.keep
  have KPA := Lib.hid kA
  have zA := kA.size
  have R3A := Lib.hid (R3w3a.out.keep kA (by omega))
  clear hSw3a hRw3a hFA hbA ew3a HWw3a HKw3a BBw3a HGw3a HBw3a HIw3a
  have BA := Lib.hid (Bw3a.out.trans (KPA.out.below (B := w.heap.size) (by omega) (fun k h1 h2 => by omega)))
  obtain ⟨rfl, _, _, O3, hO3, hI3⟩ := HIA.out
  have c0 := R3A.out.cell 0
  have c1 := R3A.out.cell 1
  have lr3 := R3A.out.lt
  simp only [List.getElem?_cons_zero, List.getElem?_cons_succ] at c0 c1
  go_wp2_with fail
  refine (fResult_any w3c hI3.at_).mono ?_
  rintro e w4 ⟨rfl, b4⟩
  rw [show f9A.1.n = 0 from FX.out.1.2.2.1, show f9A.1.e = 0 from FX.out.1.2.2.2.1]
  have z4 := b4.size
  have B4 := Lib.hid (BA.out.trans (b4.mono (by omega)))
  have HB4 := Lib.hid (HBA.out.belows b4)
  have R4 := Lib.hid (R3A.out.below b4 lr3)
  clear hI3 b4 HBA HIA BA c0 c1
  have c0 := R4.out.cell 0
  have c1 := R4.out.cell 1
  have lr4 := R4.out.lt
  simp only [List.getElem?_cons_zero, List.getElem?_cons_succ] at c0 c1
  go_wp2_with fail
  obtain ⟨w5, hw5⟩ : ∃ w5, w5 = w4.alloc (.cells #[.int .u8 97, .int .u8 98] 5 (2, 3)) := ⟨_, rfl⟩
  have b5 : Below w4.heap.size w4 w5 := by rw [hw5]; go_grown
  have hr5 : RdB w5 (.slice (some ⟨w4.heap.size, 0, none⟩) 2 2) [97, 98] := by
    refine .inr (.inr ⟨w4.heap.size, 0, 2, rfl, by decide, by decide, fun i hi => ?_⟩)
    have hi : i < 2 := hi
    rw [hw5, World.cell?, (MapKept.heap_alloc w4 _).1, Nat.zero_add]
    match i, hi with
    | 0, _ | 1, _ => rfl
  have z5 := b5.size
  have B5 := Lib.hid (B4.out.trans (b5.mono (by omega)))
  have HB5 := Lib.hid (HB4.out.belows b5)
  have R5 := Lib.hid (R4.out.below b5 lr4)
  have HR5 := Lib.hid hr5
  rw [← hw5]
  clear hw5 b5 hr5 HB4 B4 c0 c1
  refine (pNew_f 0 64 1 _ 2 2 [97, 98] _ HR5.out (by decide) (by intro x hx; simp at hx; omega) (by decide) (by decide) (by decide) (by decide)).mono ?_
  rintro e w6 ⟨q2, rfl, hq2, hF, b6⟩
  have z6 := b6.size
  have B6 := Lib.hid (B5.out.trans (b6.mono (by omega)))
  have HB6 := Lib.hid (HB5.out.belows b6)
  have R6 := Lib.hid (R5.out.below b6 R5.out.lt)
  have HI6 := Lib.hid (show putFam.inv w6 (fun k => w5.heap.size ≤ k ∧ k < w6.heap.size) q2 (q2, f9p) from ⟨rfl, hF⟩)
  rw [FX.out.1.2.2.2.2] at HB6
  clear hF b6 HB5 B5 HR5
  go_wp2_with fail
  obtain ⟨w6a, hw6a⟩ : ∃ w6a, w6a = w6.alloc (Obj.cells #[.iface 38 (.pointer (some ⟨q2, 0, none⟩))] 154) := ⟨_, rfl⟩
  have bw6a : Below w6.heap.size w6 w6a := by rw [hw6a]; exact (Below.refl _ _).alloc (Nat.le_refl _) _
  have hgw6a : Blk w6a w6.heap.size [.iface 38 (.pointer (some ⟨q2, 0, none⟩))] := by rw [hw6a]; exact Blk.made w6 _ _
  have zw6a : w6.heap.size < w6a.heap.size := by rw [hw6a]; simp
  have HBw6a := Lib.hid (HB6.out.belows bw6a)
  have HIw6a := Lib.hid (putFam.keep HI6.out (Below.keeps (M := fun _ => False) bw6a) (fun _ _ => id))
  have Bw6a := Lib.hid (B6.out.trans (bw6a.mono (by omega)))
  have HGw6a := Lib.hid hgw6a
  have R6w6a := Lib.hid (R6.out.below bw6a R6.out.lt)
  have lpw6a := HBw6a.out.hd.lt
  have lcw6a := Blk.lt HBw6a.out.wd
  rw [← hw6a]
  clear hw6a bw6a hgw6a HB6 HI6 B6
  refine (soloNew putFam (F := (fun k => w5.heap.size ≤ k ∧ k < w6.heap.size)) (s := (q2, f9p)) HBw6a.out HIw6a.out (by omega) (by omega) HGw6a.out).mono ?_
  rintro e w6b ⟨Ww6a, κw6a, avw6a, abw6a, rfl, hWw6a, hκw6a, hWsw6a, bw6b⟩
  have HWw6a := Lib.hid hWw6a
  have HKw6a := Lib.hid hκw6a
  have BBw6a := Lib.hid bw6b
  have zw6b := bw6b.size
  clear hWw6a hκw6a bw6b
  go_wp2_with fail
  refine (soloRobin putFam (w0 := w6a) HWw6a.out HKw6a.out BBw6a.out lpw6a lcw6a 4 (by decide) (by decide) (by decide)).mono ?_
  rintro e w6c ⟨rfl, hSw6a⟩
  have hRw6a := robin_upto (M := putMacQ) 4 (Runs.q q2 f9B_runs) (.inr (by decide)) (0 + 2)
  have ew6a : (putFam.M.robin 4 ⟨(List.replicate 96 0), (0 + 2), [⟨some (q2, f9p), false⟩], 0, []⟩).2 = 4 := hRw6a.1
  rw [ew6a]
  obtain ⟨FB, qB, hFB, npB, ncB, hfB⟩ := hSw6a.of hRw6a.2.1
  have HIB := Lib.hid hFB
  have hbB : Buf w6c p c (0 + 2 + 4) f9B.2.1 := by
    have h1 := hSw6a.buf
    have h2 : (putFam.M.robin 4 ⟨(List.replicate 96 0), (0 + 2), [⟨some (q2, f9p), false⟩], 0, []⟩).1.bs = f9B.2.1 := hRw6a.2.2.1
    have h3 : (putFam.M.robin 4 ⟨(List.replicate 96 0), (0 + 2), [⟨some (q2, f9p), false⟩], 0, []⟩).1.cnt = 0 + 2 + 4 := hRw6a.2.2.2
    rw [h2, h3] at h1
    exact h1
  have HBB := Lib.hid hbB
  have kB := hSw6a.keep
  have KPB := Lib.hid kB
  have zB := kB.size
  have R6B := Lib.hid (R6w6a.out.keep kB (by omega))
  clear hSw6a hRw6a hFB hbB ew6a HWw6a HKw6a BBw6a HGw6a HBw6a HIw6a
  have BB := Lib.hid (Bw6a.out.trans (KPB.out.below (B := w.heap.size) (by omega) (fun k h1 h2 => by omega)))
  have c0 := R6B.out.cell 0
  have c1 := R6B.out.cell 1
  have lr6 := R6B.out.lt
  simp only [List.getElem?_cons_zero, List.getElem?_cons_succ] at c0 c1
  go_wp2_with fail
  refine (fNew_f 0 64 w6c (by decide) (by decide) (by decide) (by decide)).mono ?_
  rintro e w7 ⟨q3, rfl, hq3, hF, b7⟩
  have z7 := b7.size
  have B7 := Lib.hid (BB.out.trans (b7.mono (by omega)))
  have HB7 := Lib.hid (HBB.out.belows b7)
  have HI7 := Lib.hid (show fixFam.inv w7 (fun k => w6c.heap.size ≤ k ∧ k < w7.heap.size) q3 (q3, f9i) from ⟨rfl, hF⟩)
  have lp7 := HB7.out.hd.lt
  have lpB := HBB.out.hd.lt
  have lcB := Blk.lt HBB.out.wd
  clear hF b7 HBB BB c0 c1
  go_wp2_with fail
  obtain ⟨w7a, hw7a⟩ : ∃ w7a, w7a = w7.alloc (Obj.cells #[.iface 69 (.pointer (some ⟨q3, 0, none⟩))] 154) := ⟨_, rfl⟩
  have bw7a : Below w7.heap.size w7 w7a := by rw [hw7a]; exact (Below.refl _ _).alloc (Nat.le_refl _) _
  have hgw7a : Blk w7a w7.heap.size [.iface 69 (.pointer (some ⟨q3, 0, none⟩))] := by rw [hw7a]; exact Blk.made w7 _ _
  have zw7a : w7.heap.size < w7a.heap.size := by rw [hw7a]; simp
  have HBw7a := Lib.hid (HB7.out.belows bw7a)
  have HIw7a := Lib.hid (fixFam.keep HI7.out (Below.keeps (M := fun _ => False) bw7a) (fun _ _ => id))
  have Bw7a := Lib.hid (B7.out.trans (bw7a.mono (by omega)))
  have HGw7a := Lib.hid hgw7a
  have lpw7a := HBw7a.out.hd.lt
  have lcw7a := Blk.lt HBw7a.out.wd
  rw [← hw7a]
  clear hw7a bw7a hgw7a HB7 HI7 B7
  refine (soloNew fixFam (F := (fun k => w6c.heap.size ≤ k ∧ k < w7.heap.size)) (s := (q3, f9i)) HBw7a.out HIw7a.out (by omega) (by omega) HGw7a.out).mono ?_
  rintro e w7b ⟨Ww7a, κw7a, avw7a, abw7a, rfl, hWw7a, hκw7a, hWsw7a, bw7b⟩
  have HWw7a := Lib.hid hWw7a
  have HKw7a := Lib.hid hκw7a
  have BBw7a := Lib.hid bw7b
  have zw7b := bw7b.size
  clear hWw7a hκw7a bw7b
  go_wp2_with fail
  refine (soloRobin fixFam (w0 := w7a) HWw7a.out HKw7a.out BBw7a.out lpw7a lcw7a 99 (by decide) (by decide) (by decide)).mono ?_
  rintro e w7c ⟨rfl, hSw7a⟩
  have hRw7a := robin_upto (M := fixMacQ) 99 (Runs.fq q3 f9C_runs) (.inl ⟨FX.out.2.2.2.1, by decide⟩) (0 + 2 + 4)
  have ew7a : (fixFam.M.robin 99 ⟨f9B.2.1, (0 + 2 + 4), [⟨some (q3, f9i), false⟩], 0, []⟩).2 = 4 := hRw7a.1
  rw [ew7a]
  obtain ⟨FC, qC, hFC, npC, ncC, hfC⟩ := hSw7a.of hRw7a.2.1
  have HIC := Lib.hid hFC
  have hbC : Buf w7c p c (0 + 2 + 4 + 4) f9C.2.1 := by
    have h1 := hSw7a.buf
    have h2 : (fixFam.M.robin 99 ⟨f9B.2.1, (0 + 2 + 4), [⟨some (q3, f9i), false⟩], 0, []⟩).1.bs = f9C.2.1 := hRw7a.2.2.1
    have h3 : (fixFam.M.robin 99 ⟨f9B.2.1, (0 + 2 + 4), [⟨some (q3, f9i), false⟩], 0, []⟩).1.cnt = 0 + 2 + 4 + 4 := hRw7a.2.2.2
    rw [h2, h3] at h1
    exact h1
  have HBC := Lib.hid hbC
  have kC := hSw7a.keep
  have KPC := Lib.hid kC
  have zC := kC.size
  clear hSw7a hRw7a hFC hbC ew7a HWw7a HKw7a BBw7a HGw7a HBw7a HIw7a
  have BC := Lib.hid (Bw7a.out.trans (KPC.out.below (B := w.heap.size) (by omega) (fun k h1 h2 => by omega)))
  obtain ⟨rfl, _, _, O7, hO7, hI7⟩ := HIC.out
  go_wp2_with fail
  refine (fResult_any w7c hI7.at_).mono ?_
  rintro e w8 ⟨rfl, b8⟩
  rw [show f9C.1.n = 10 from FX.out.2.2.2.2.1, show f9C.1.e = 0 from FX.out.2.2.2.2.2]
  have z8 := b8.size
  go_wp2
  go_ret
  exact ⟨rfl, BC.out.trans (b8.mono (by omega))⟩
end Go.Proofs.YtknahaaefmlcpaaGreat
