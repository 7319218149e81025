/- The walk of the law CopiesSteps. Conditions: the numbers are in their kinds' ranges. -/
import Derived.Test.YtkbjbpaeoopkfaaKl
import Derived.Test.YtkbjbpaeoopkfaaTd
namespace Go.Proofs.Ytkbjbpaeoopkfaa
set_option maxRecDepth 100000
open Go.RowKit
set_option linter.unusedVariables false
set_option linter.unusedSimpArgs false
theorem rdA_cap {w : World} {a : Option Addr} {n c : Nat} {T : List AnsV} (h : RdA w (.slice a n c) T) : T.length ≤ c ∧ n = T.length := by
  rcases h with ⟨e, rfl⟩ | ⟨a', cap, e, rfl, hm⟩ | ⟨b, off, cap, e, hc, hm, hcell⟩
  · cases e; exact ⟨Nat.zero_le _, rfl⟩
  · cases e; exact ⟨Nat.zero_le _, rfl⟩
  · cases e; exact ⟨hc, rfl⟩
theorem Blk.c6s {w : World} {b : Nat} {x0 x1 x2 x3 x4 x5 : Value} (h : Blk w b [x0, x1, x2, x3, x4, x5]) : w.cell? ⟨b, 0, none⟩ = some x0 ∧ w.cell? ⟨b, 1, none⟩ = some x1 ∧ w.cell? ⟨b, 2, none⟩ = some x2 ∧ w.cell? ⟨b, 3, none⟩ = some x3 ∧ w.cell? ⟨b, 4, none⟩ = some x4 ∧ w.cell? ⟨b, 5, none⟩ = some x5 :=
  ⟨h.cell 0, h.cell 1, h.cell 2, h.cell 3, h.cell 4, h.cell 5⟩
theorem TOk.mk0 {w0 w1 : World} {t0 : Option Addr} {n c tb : Nat} {T : List AnsV} (hT : RdA w0 (.slice t0 n c) T) (hS : Sls T) (hTs : RdAs w0 T) (hlen : T.length ≤ 1000000) (j : Nat) (hl : ∀ i, i < j → i < T.length → (gA T i).b.length ≤ 1000) (b : Below w0.heap.size w0 w1) (ht : w0.heap.size ≤ tb) (hj : j ≤ T.length) : TOk w1 tb (.slice t0 j c) (T.take j) := by
  have hlj : (T.take j).length = j := by simp; omega
  refine ⟨rdA_take (hT.below b) j hj, fun i hi => ?_, (hTs.below b).take j, fun h0 e => ?_, fun i hi h0 e => ?_, by omega, fun i hi => ?_⟩
  · rw [gA_take _ _ _ (by omega)]
    exact hS i (by omega)
  · have e2 : (Value.slice t0 n c).ownBlock = some tb := by
      cases t0 with
      | none => simp [Value.ownBlock] at e
      | some a => simpa [Value.ownBlock] using e
    have := hT.blk (by omega) tb e2
    omega
  · rw [gA_take _ _ _ (by omega)] at e h0
    have := (hTs i (by omega)).blk h0 tb e
    omega
  · rw [gA_take _ _ _ (by omega)]
    exact hl i (by omega) (by omega)
theorem cpM_bd {kind a n : Int} {l : List Int} {T : List AnsV} {j : Nat} (hj : j ≤ T.length) (hT : T.length ≤ 90) (hl : l.length ≤ 600) (ha : -1099511627776 ≤ a) (ha' : a ≤ 1099511627776) (hb : ∀ i, i < j → (gA T i).b.length ≤ 100) :
    ((cpM0 kind a n l).run (T.take j)).hv.length ≤ 70368744000000 ∧ ((cpM0 kind a n l).run (T.take j)).l.length ≤ 131072 ∧ ((cpM0 kind a n l).run (T.take j)).n ≤ 131072 ∧ -2305843009213693952 ≤ ((cpM0 kind a n l).run (T.take j)).a ∧ ((cpM0 kind a n l).run (T.take j)).a ≤ 2305843009213693952 := by
  by_cases c0 : kind % 3 = 0
  · rw [cpM0_0 c0, run_wr _ _ _ _ _ hj]
    dsimp only
    simp
    omega
  by_cases c1 : kind % 3 = 1
  · rw [cpM0_1 c1, run_wr _ _ _ _ _ hj]
    dsimp only
    have : (if n ≤ 131072 then n.toNat else 0) ≤ 131072 := by split <;> omega
    simp only [List.length_drop, List.length_replicate, List.length_nil]
    omega
  · rw [cpM0_2 c0 c1, run_rd _ _ _ _ _ hj]
    dsimp only
    have h1 : (if n ≤ 131072 then n.toNat else 0) ≤ 131072 := by split <;> omega
    have h2 := catB_len T 0 100 (min j (((if n ≤ 131072 then n.toNat else 0) + 7) / 8)) (fun i hi => by rw [Nat.zero_add]; exact hb i (by omega))
    generalize (if n ≤ 131072 then n.toNat else 0) = N at *
    simp only [List.length_nil]
    omega
set_option maxHeartbeats 2000000 in
theorem steps_early (kind a n : Int) (s0 t0 : Option Addr) (sl sc tn tc : Nat) (w : World) (h : (600 : Int) < (sl : Int) ∨ (90 : Int) < (tn : Int) ∨ (600 < n ∧ n ≤ 131072) ∨ 1099511627776 < a ∨ a < -1099511627776) :
    Calls Try.prog 7 #[.int .u8 kind, .int .i64 a, .int .i64 n, .slice s0 sl sc, .slice t0 tn tc] w fun r w' => r = .returned (.bool true) ∧ Below w.heap.size w w' := by
  by_cases c0 : (600 : Int) < (sl : Int)
  · clear h
    go_enter Try.func7, Try.ntmps7
    go_wp2_with fail
    refine (kFixed _).mono ?_
    rintro r w1 ⟨rfl, b1⟩
    go_wp2
    go_ret
    exact ⟨rfl, b1⟩
  by_cases c1 : (90 : Int) < (tn : Int)
  · clear h
    go_enter Try.func7, Try.ntmps7
    go_wp2_with fail
    refine (kFixed _).mono ?_
    rintro r w1 ⟨rfl, b1⟩
    go_wp2
    go_ret
    exact ⟨rfl, b1⟩
  by_cases c2 : 600 < n
  · by_cases c3 : n ≤ 131072
    · clear h
      go_enter Try.func7, Try.ntmps7
      go_wp2_with fail
      refine (kFixed _).mono ?_
      rintro r w1 ⟨rfl, b1⟩
      go_wp2
      go_ret
      exact ⟨rfl, b1⟩
    · by_cases c4 : 1099511627776 < a
      · clear h
        go_enter Try.func7, Try.ntmps7
        go_wp2_with fail
        refine (kFixed _).mono ?_
        rintro r w1 ⟨rfl, b1⟩
        go_wp2
        go_ret
        exact ⟨rfl, b1⟩
      · have c5 : a < -1099511627776 := by omega
        clear h
        go_enter Try.func7, Try.ntmps7
        go_wp2_with fail
        refine (kFixed _).mono ?_
        rintro r w1 ⟨rfl, b1⟩
        go_wp2
        go_ret
        exact ⟨rfl, b1⟩
  · by_cases c4 : 1099511627776 < a
    · clear h
      go_enter Try.func7, Try.ntmps7
      go_wp2_with fail
      refine (kFixed _).mono ?_
      rintro r w1 ⟨rfl, b1⟩
      go_wp2
      go_ret
      exact ⟨rfl, b1⟩
    · have c5 : a < -1099511627776 := by omega
      clear h
      go_enter Try.func7, Try.ntmps7
      go_wp2_with fail
      refine (kFixed _).mono ?_
      rintro r w1 ⟨rfl, b1⟩
      go_wp2
      go_ret
      exact ⟨rfl, b1⟩
set_option maxHeartbeats 4000000 in
theorem steps_lo (kind a n : Int) (s0 t0 : Option Addr) (sl sc tn tc : Nat) (l : List Int) (T : List AnsV) (w : World) (h : RdB w (.slice s0 sl sc) l) (hl : IsB l) (hT : RdA w (.slice t0 tn tc) T) (hS : Sls T) (hTs : RdAs w T) (hk : 0 ≤ kind ∧ kind ≤ 255) (hn0 : -9223372036854775808 ≤ n)
    (c0 : ¬ (600 : Int) < (sl : Int)) (c1 : ¬ (90 : Int) < (tn : Int)) (c2 : ¬ 600 < n) (c4 : ¬ 1099511627776 < a) (c5 : ¬ a < -1099511627776) :
    Calls Try.prog 7 #[.int .u8 kind, .int .i64 a, .int .i64 n, .slice s0 sl sc, .slice t0 tn tc] w fun r w' => r = .returned (.bool true) ∧ Below w.heap.size w w' := by
  have hll := Lib.hid (rd_len h)
  have hll6 : l.length ≤ 600 := by have := hll.out; omega
  obtain ⟨htc, htl⟩ := rdA_cap hT
  subst htl
  have htl9 : T.length ≤ 90 := by omega
  have HR := Lib.hid h
  have HT := Lib.hid hT
  have HS := Lib.hid hS
  have HTS := Lib.hid hTs
  have HK := Lib.hid hk
  clear h hT hS hTs hk
  go_enter Try.func7, Try.ntmps7
  go_wp2_with fail
  refine (kFixed _).mono ?_
  rintro r w1 ⟨rfl, b1⟩
  have z1 := b1.size
  have B1 := Lib.hid b1
  clear b1
  go_wp2_with (refine list_app rfl (.tmp 47) (.tmp 48) rfl w1.heap.size _ _ [] l rfl (own_empty (w1.alloc (.cells #[] 5)) w1.heap.size _ _ #[] (MapKept.heap_alloc w1 _).1 (Nat.le_refl _)) rfl ((HR.out.below B1.out).below ((Below.refl _ _).alloc (Nat.le_refl _) _)) (by simp; omega) (by simp) ?_)
  intro v' w2 p2
  obtain ⟨oa, on, oc, rfl⟩ := p2.1.isSliceC
  have B2' : Below w1.heap.size w1 w2 := p2.below ((Below.refl _ _).alloc (Nat.le_refl _) _) (by simp) (by intro k hk; cases hk; exact Nat.le_refl _)
  have z2 := B2'.size
  have HO2 := Lib.hid (show OwB 5 w1.heap.size w2 (.slice oa on oc) l by simpa using p2.1)
  have B2 := Lib.hid (B1.out.trans (B2'.mono z1))
  clear p2 B2'
  go_wp2_with fail
  refine (made_any kind a n oa on oc l _ HO2.out.rd (by omega) HK.out).mono ?_
  rintro r w3 ⟨q, rfl, hq, b3, hcp⟩
  unfold ptr
  have z3 := b3.size
  have ql := hcp.2.1 q hcp.1
  have hon : on = l.length := rd_len HO2.out.rd
  have HON := Lib.hid hon
  have HO3 := Lib.hid (HO2.out.below b3)
  have HC3 := Lib.hid hcp
  have B3 := Lib.hid (B2.out.trans (b3.mono (by omega)))
  clear b3 hcp hon
  go_wp2_with fail
  go_loopw [13, 57] (fun x i wr => ∃ k : Nat, k ≤ l.length ∧ i = .int .i64 k ∧ (∃ l', l'.length = l.length ∧ IsB l' ∧ OwB 5 w1.heap.size wr (.slice oa on oc) l') ∧ Keep (fun i => (Value.slice oa on oc).ownBlock = some i) w3 wr) (fun _ i _ => l.length - (intOf i).toNat)
  case atStart => exact ⟨0, by omega, rfl, ⟨l, rfl, hl, HO3.out⟩, Keep.refl _ _⟩
  case round =>
    obtain ⟨k, hk, rfl, ⟨l', hl', hlb, hown⟩, hkp⟩ := hrel
    obtain rfl : on = l.length := HON.out
    by_cases hlt : k < l.length
    · obtain ⟨g, cap, hv, hg1, hg2, hg3, hg4, hcell⟩ := hown.slice (by omega)
      rw [hl'] at hv
      cases hv
      have hcc := hcell k (by omega)
      have how2 : wr.ownsRow w1.heap.size 5 1 (.slice (some ⟨g, 0, none⟩) l.length oc) l.length (l'.map (Value.int .u8)) := by
        have hx := hown
        unfold OwB at hx
        rw [hl'] at hx
        exact hx
      have hfr := World.ownsRow.frozenAt how2 k
      have hbb := hlb.getD k
      have HOW := Lib.hid how2
      have HKP := Lib.hid hkp
      have HLB := Lib.hid hlb
      clear hcell hown how2 hkp hlb
      go_wp2
      refine ⟨⟨k + 1, by omega, by go_num, ⟨l'.set k ((gB l' k + 1) % 256), by simp [hl'], ?_, ?_⟩, HKP.out.setCell (p := ⟨g, k, none⟩) (.inl rfl) _⟩, by simp [intOf]; omega⟩
      · intro x hx
        rcases List.mem_or_eq_of_mem_set hx with hx | hx
        · exact HLB.out x hx
        · subst hx
          omega
      · have hst := (HOW.out.stored k (.int .u8 ((gB l' k + 1) % 256))).1
        unfold OwB
        rw [List.length_set, hl', List.map_set]
        exact hst
    · obtain rfl : k = l.length := by omega
      clear hlt hk
      have hob : ∀ i, (Value.slice oa l.length oc).ownBlock = some i → w1.heap.size ≤ i ∧ i < w2.heap.size := fun i hi => World.ownsRow.lt HO2.out i hi
      have zr := hkp.size
      have HCr := Lib.hid (HC3.out.keep hkp (fun i hi e => by have := hob i e; omega))
      have Br := Lib.hid (B3.out.trans (hkp.below (by omega) (fun k h1 h2 => by have := hob k h2; omega)))
      clear hkp hown hlb hl' l' hob HC3 B3 HO2 HO3
      obtain ⟨m0, hm0⟩ : ∃ m0, m0 = cpM0 kind a n l := ⟨_, rfl⟩
      rw [← hm0] at HCr
      have HM0 := Lib.hid hm0
      clear hm0
      go_wp2_with fail
      go_loopw [14] (fun i wx => ∃ (j : Nat) (F : Nat → Prop), j ≤ T.length + 1 ∧ i = .int .i64 j ∧ (∀ x, x < j → x < T.length → (gA T x).b.length ≤ 100) ∧ Cp wx F q (m0.run (T.take j)) ∧ (∀ i, F i → w.heap.size ≤ i) ∧ Below w.heap.size w wx) (fun i _ => T.length + 1 - (intOf i).toNat)
      case atStart => exact ⟨0, _, by omega, rfl, fun x hx => by omega, HCr.out, fun i hi => by omega, Br.out⟩
      case round =>
        obtain ⟨j, F, hj, rfl, hjb, hcp, hF, hbel⟩ := hrel
        by_cases hjT : j ≤ T.length
        · have zx := hbel.size
          have hbd := cpM_bd (kind := kind) (a := a) (n := n) (l := l) hjT htl9 hll6 (by omega) (by omega) (fun i hi => hjb i hi (by omega))
          rw [← HM0.out] at hbd
          obtain ⟨m, hm⟩ : ∃ m, m = m0.run (T.take j) := ⟨_, rfl⟩
          rw [← hm] at hbd hcp
          have HM := Lib.hid hm
          have HBD := Lib.hid hbd
          have HCP := Lib.hid hcp
          have HF := Lib.hid hF
          have BX := Lib.hid hbel
          have HJB := Lib.hid hjb
          have qx := hcp.2.1 q hcp.1
          clear hm hbd hcp hF hbel hjb
          go_wp2_with fail
          have htp0 : Tp (wr.alloc (Obj.cells #[Value.slice t0 j tc, Value.int IntKind.i64 0, Value.int IntKind.i64 0, Value.int IntKind.i64 0, Value.int IntKind.i64 0, Value.int IntKind.u64 0, Value.int IntKind.u64 0, Value.slice none 0 0, Value.bool false] 60)) wr.heap.size (.slice t0 j tc) 0 accZ false := Blk.made wr #[Value.slice t0 j tc, Value.int IntKind.i64 0, Value.int IntKind.i64 0, Value.int IntKind.i64 0, Value.int IntKind.i64 0, Value.int IntKind.u64 0, Value.int IntKind.u64 0, Value.slice none 0 0, Value.bool false] _
          have hba : Below w.heap.size w (wr.alloc (Obj.cells #[Value.slice t0 j tc, Value.int IntKind.i64 0, Value.int IntKind.i64 0, Value.int IntKind.i64 0, Value.int IntKind.i64 0, Value.int IntKind.u64 0, Value.int IntKind.u64 0, Value.slice none 0 0, Value.bool false] 60)) := BX.out.alloc zx _
          refine (said_any wr.heap.size (.slice t0 j tc) (T.take j) kind a n s0 sl sc l _ htp0 (TOk.mk0 HT.out HS.out HTS.out (by omega) j (fun i h1 h2 => by have := HJB.out i h1 h2; omega) hba zx hjT) (HR.out.below hba) (fun h0 e => by have := HR.out.blk h0 _ e; omega) (by omega) HK.out hn0 (by omega) (by omega)).mono ?_
          rw [← HM0.out, ← HM.out]
          rintro e w5 ⟨k5, r0, rl, rc, kk, u0, ul, uc, rfl, hrd, htp, hrw⟩
          have z5 := k5.size
          rw [World.size_alloc] at z5
          have tbl := htp.lt
          have KS := Lib.hid (((Keep.refl (fun i => i = wr.heap.size) wr).alloc _).trans k5)
          have HCP5 := Lib.hid (HCP.out.keep KS.out (fun i hi e => by have := HCP.out.2.1 i hi; omega))
          have HTP5 := Lib.hid htp
          have RD5 := Lib.hid hrd
          have RW5 := Lib.hid hrw
          have B5 := Lib.hid (BX.out.trans (KS.out.below zx (fun k h1 h2 => by omega)))
          clear htp0 hba k5 htp hrd hrw KS HCP
          go_wp2_with fail
          refine (cp_next F q m _ HCP5.out).mono ?_
          rintro e w6 ⟨x0, xl, xc, rfl, o6, b6⟩
          have z6 := b6.size
          have HCP6 := Lib.hid (HCP5.out.below b6)
          have HTP6 := Lib.hid (HTP5.out.below b6 tbl)
          have RD6 := Lib.hid (RD5.out.below b6)
          have RW6 := Lib.hid (RW5.out.below b6)
          have B6 := Lib.hid (B5.out.trans (b6.mono (by omega)))
          have RX6 := Lib.hid o6.rd
          clear b6 o6 HCP5 HTP5 RD5 RW5 B5
          go_wp2_with fail
          refine (cp_next F q m _ (HCP6.out.below ((Below.refl _ _).alloc (Nat.le_refl _) _))).mono ?_
          rintro e w7 ⟨y0, yl, yc, rfl, o7, b7⟩
          have z7 := b7.size
          rw [World.size_alloc] at z7
          have HA7 := Lib.hid (Blk.below (Blk.made w6 #[Value.int IntKind.i64 m.ak, Value.int IntKind.i64 m.aa, Value.int IntKind.i64 m.an, Value.int IntKind.u64 0, Value.int IntKind.u64 0, Value.slice x0 xl xc] 50) b7 (by simp))
          have HCP7 := Lib.hid ((HCP6.out.below ((Below.refl _ _).alloc (Nat.le_refl _) _)).below b7)
          have HTP7 := Lib.hid (Blk.below (Blk.alloc HTP6.out _) b7 (by simp; omega))
          have RD7 := Lib.hid ((RD6.out.below ((Below.refl _ _).alloc (Nat.le_refl _) _)).below b7)
          have RW7 := Lib.hid ((RW6.out.below ((Below.refl _ _).alloc (Nat.le_refl _) _)).below b7)
          have RX7 := Lib.hid ((RX6.out.below ((Below.refl _ _).alloc (Nat.le_refl _) _)).below b7)
          have B7 := Lib.hid ((B6.out.alloc (by omega) _).trans (b7.mono (by simp; omega)))
          have RY7 := Lib.hid o7.rd
          clear b7 o7 HCP6 HTP6 RD6 RW6 RX6 B6
          go_wp2_with fail
          obtain ⟨w8, hw8⟩ : ∃ w8, w8 = w7.alloc (Obj.cells #[Value.int IntKind.i64 m.ak, Value.int IntKind.i64 m.aa, Value.int IntKind.i64 m.an, Value.int IntKind.u64 0, Value.int IntKind.u64 0, Value.slice y0 yl yc] 50) := ⟨_, rfl⟩
          rw [← hw8]
          have b8 : Below w7.heap.size w7 w8 := by rw [hw8]; exact (Below.refl _ _).alloc (Nat.le_refl _) _
          have HB8 := Lib.hid (show Blk w8 w7.heap.size [Value.int IntKind.i64 m.ak, Value.int IntKind.i64 m.aa, Value.int IntKind.i64 m.an, Value.int IntKind.u64 0, Value.int IntKind.u64 0, Value.slice y0 yl yc] by rw [hw8]; exact Blk.made w7 _ _)
          have z8 : w7.heap.size < w8.heap.size := by rw [hw8, World.size_alloc]; omega
          clear hw8
          have HA8 := Lib.hid (HA7.out.below b8 (by omega))
          have HT8 := Lib.hid (Blk.below HTP7.out b8 (by omega))
          have HC8 := Lib.hid (HCP7.out.below b8)
          have RD8 := Lib.hid (RD7.out.below b8)
          have RW8 := Lib.hid (RW7.out.below b8)
          have RX8 := Lib.hid (RX7.out.below b8)
          have RY8 := Lib.hid (RY7.out.below b8)
          have B8 := Lib.hid (B7.out.trans (b8.mono (by omega)))
          clear HA7 HTP7 HCP7 RD7 RW7 RX7 RY7 B7 b8
          obtain ⟨ca0, ca1, ca2, ca3, ca4, ca5⟩ := Blk.c6s (w := w8) HA8.out
          obtain ⟨cb0, cb1, cb2, cb3, cb4, cb5⟩ := Blk.c6s (w := w8) HB8.out
          obtain ⟨-, -, ct2, ct3, ct4, ct5, ct6, ct7, ct8⟩ := Tp.cells (w := w8) HT8.out
          have CV := conv_rd (w := w8.drew) 22 9 Try.underlying22 Try.underlying9 (RdB.drewN 1 RD8.out)
          go_wp2_with fail
          refine wp_region_held_drew (S := (fun w' => w'.cell? ⟨w6.heap.size, 0, none⟩ = some (.int .i64 m.ak) ∧ w'.cell? ⟨w6.heap.size, 1, none⟩ = some (.int .i64 m.aa) ∧ w'.cell? ⟨w6.heap.size, 2, none⟩ = some (.int .i64 m.an) ∧ w'.cell? ⟨w6.heap.size, 3, none⟩ = some (.int .u64 0) ∧ w'.cell? ⟨w6.heap.size, 4, none⟩ = some (.int .u64 0) ∧ w'.cell? ⟨w6.heap.size, 5, none⟩ = some (.slice x0 xl xc) ∧ w'.cell? ⟨w7.heap.size, 0, none⟩ = some (.int .i64 m.ak) ∧ w'.cell? ⟨w7.heap.size, 1, none⟩ = some (.int .i64 m.aa) ∧ w'.cell? ⟨w7.heap.size, 2, none⟩ = some (.int .i64 m.an) ∧ w'.cell? ⟨w7.heap.size, 3, none⟩ = some (.int .u64 0) ∧ w'.cell? ⟨w7.heap.size, 4, none⟩ = some (.int .u64 0) ∧ w'.cell? ⟨w7.heap.size, 5, none⟩ = some (.slice y0 yl yc) ∧ w'.cell? ⟨wr.heap.size, 2, none⟩ = some (.int .i64 m.ak) ∧ w'.cell? ⟨wr.heap.size, 3, none⟩ = some (.int .i64 m.aa) ∧ w'.cell? ⟨wr.heap.size, 4, none⟩ = some (.int .i64 m.an) ∧ w'.cell? ⟨wr.heap.size, 5, none⟩ = some (.int .u64 0) ∧ w'.cell? ⟨wr.heap.size, 6, none⟩ = some (.int .u64 0) ∧ w'.cell? ⟨wr.heap.size, 7, none⟩ = some (.slice u0 ul uc) ∧ w'.cell? ⟨wr.heap.size, 8, none⟩ = some (.bool m.live) ∧ (convert 22 9 (.slice r0 rl rc)).run Try.prog w' = .ok (.string (strOfNums m.hv)) w')) (by kernel_rfl) ?_ (fun hHeld => ?_)
          · try dsimp only
            go_keep
          refine wpAnyH_take (i := 0) (v := ?_) rfl (by kernel_rfl) (by kernel_rfl) (by kernel_rfl) (fun _ _ _ h => h) (Or.inl ⟨by rfl, ?_⟩) (by assumption) ?_
          rotate_left
          · intro w0 hSw
            (try dsimp only at hSw)
            go_simp
            try with_reducible rfl
          simp only [Act.put, List.getElem_toArray, List.getElem_cons_zero, List.getElem_cons_succ, List.setIfInBounds_toArray, List.set_cons_zero, List.set_cons_succ]
          refine wpAnyH_take (i := 1) (v := ?_) rfl (by kernel_rfl) (by kernel_rfl) (by kernel_rfl) (fun _ _ _ h => h) (Or.inl ⟨by rfl, ?_⟩) (by assumption) ?_
          rotate_left
          · intro w0 hSw
            (try dsimp only at hSw)
            go_simp
            try with_reducible rfl
          simp only [Act.put, List.getElem_toArray, List.getElem_cons_zero, List.getElem_cons_succ, List.setIfInBounds_toArray, List.set_cons_zero, List.set_cons_succ]
          refine wpAnyH_take (i := 2) (v := ?_) rfl (by kernel_rfl) (by kernel_rfl) (by kernel_rfl) (fun _ _ _ h => h) (Or.inl ⟨by rfl, ?_⟩) (by assumption) ?_
          rotate_left
          · intro w0 hSw
            (try dsimp only at hSw)
            go_simp
            try with_reducible rfl
          simp only [Act.put, List.getElem_toArray, List.getElem_cons_zero, List.getElem_cons_succ, List.setIfInBounds_toArray, List.set_cons_zero, List.set_cons_succ]
          refine wpAnyH_take (i := 3) (v := ?_) rfl (by kernel_rfl) (by kernel_rfl) (by kernel_rfl) (fun _ _ _ h => h) (Or.inl ⟨by rfl, ?_⟩) (by assumption) ?_
          rotate_left
          · intro w0 hSw
            (try dsimp only at hSw)
            go_simp
            try with_reducible rfl
          simp only [Act.put, List.getElem_toArray, List.getElem_cons_zero, List.getElem_cons_succ, List.setIfInBounds_toArray, List.set_cons_zero, List.set_cons_succ]
          refine wpAnyH_take (i := 4) (v := ?_) rfl (by kernel_rfl) (by kernel_rfl) (by kernel_rfl) (fun _ _ _ h => h) (Or.inl ⟨by rfl, ?_⟩) (by assumption) ?_
          rotate_left
          · intro w0 hSw
            (try dsimp only at hSw)
            go_simp
            try with_reducible rfl
          simp only [Act.put, List.getElem_toArray, List.getElem_cons_zero, List.getElem_cons_succ, List.setIfInBounds_toArray, List.set_cons_zero, List.set_cons_succ]
          refine wpAnyH_take (i := 5) (v := ?_) rfl (by kernel_rfl) (by kernel_rfl) (by kernel_rfl) (fun _ _ _ h => h) (Or.inl ⟨by rfl, ?_⟩) (by assumption) ?_
          rotate_left
          · intro w0 hSw
            (try dsimp only at hSw)
            go_simp
            try with_reducible rfl
          simp only [Act.put, List.getElem_toArray, List.getElem_cons_zero, List.getElem_cons_succ, List.setIfInBounds_toArray, List.set_cons_zero, List.set_cons_succ]
          refine wpAnyH_take (i := 6) (v := ?_) rfl (by kernel_rfl) (by kernel_rfl) (by kernel_rfl) (fun _ _ _ h => h) (Or.inl ⟨by rfl, ?_⟩) (by assumption) ?_
          rotate_left
          · intro w0 hSw
            (try dsimp only at hSw)
            go_simp
            try with_reducible rfl
          simp only [Act.put, List.getElem_toArray, List.getElem_cons_zero, List.getElem_cons_succ, List.setIfInBounds_toArray, List.set_cons_zero, List.set_cons_succ]
          refine wpAnyH_take (i := 7) (v := ?_) rfl (by kernel_rfl) (by kernel_rfl) (by kernel_rfl) (fun _ _ _ h => h) (Or.inl ⟨by rfl, ?_⟩) (by assumption) ?_
          rotate_left
          · intro w0 hSw
            (try dsimp only at hSw)
            go_simp
            try with_reducible rfl
          simp only [Act.put, List.getElem_toArray, List.getElem_cons_zero, List.getElem_cons_succ, List.setIfInBounds_toArray, List.set_cons_zero, List.set_cons_succ]
          refine wpAnyH_take (i := 8) (v := ?_) rfl (by kernel_rfl) (by kernel_rfl) (by kernel_rfl) (fun _ _ _ h => h) (Or.inl ⟨by rfl, ?_⟩) (by assumption) ?_
          rotate_left
          · intro w0 hSw
            (try dsimp only at hSw)
            go_simp
            try with_reducible rfl
          simp only [Act.put, List.getElem_toArray, List.getElem_cons_zero, List.getElem_cons_succ, List.setIfInBounds_toArray, List.set_cons_zero, List.set_cons_succ]
          refine wpAnyH_take (i := 9) (v := ?_) rfl (by kernel_rfl) (by kernel_rfl) (by kernel_rfl) (fun _ _ _ h => h) (Or.inl ⟨by rfl, ?_⟩) (by assumption) ?_
          rotate_left
          · intro w0 hSw
            (try dsimp only at hSw)
            go_simp
            try with_reducible rfl
          simp only [Act.put, List.getElem_toArray, List.getElem_cons_zero, List.getElem_cons_succ, List.setIfInBounds_toArray, List.set_cons_zero, List.set_cons_succ]
          refine wpAnyH_take (i := 10) (v := ?_) rfl (by kernel_rfl) (by kernel_rfl) (by kernel_rfl) (fun _ _ _ h => h) (Or.inl ⟨by rfl, ?_⟩) (by assumption) ?_
          rotate_left
          · intro w0 hSw
            (try dsimp only at hSw)
            go_simp
            try with_reducible rfl
          simp only [Act.put, List.getElem_toArray, List.getElem_cons_zero, List.getElem_cons_succ, List.setIfInBounds_toArray, List.set_cons_zero, List.set_cons_succ]
          refine wpAnyH_take (i := 11) (v := ?_) rfl (by kernel_rfl) (by kernel_rfl) (by kernel_rfl) (fun _ _ _ h => h) (Or.inl ⟨by rfl, ?_⟩) (by assumption) ?_
          rotate_left
          · intro w0 hSw
            (try dsimp only at hSw)
            go_simp
            try with_reducible rfl
          simp only [Act.put, List.getElem_toArray, List.getElem_cons_zero, List.getElem_cons_succ, List.setIfInBounds_toArray, List.set_cons_zero, List.set_cons_succ]
          refine wpAnyH_take (i := 12) (v := ?_) rfl (by kernel_rfl) (by kernel_rfl) (by kernel_rfl) (fun _ _ _ h => h) (Or.inl ⟨by rfl, ?_⟩) (by assumption) ?_
          rotate_left
          · intro w0 hSw
            (try dsimp only at hSw)
            go_simp
            try with_reducible rfl
          simp only [Act.put, List.getElem_toArray, List.getElem_cons_zero, List.getElem_cons_succ, List.setIfInBounds_toArray, List.set_cons_zero, List.set_cons_succ]
          refine wpAnyH_take (i := 13) (v := ?_) rfl (by kernel_rfl) (by kernel_rfl) (by kernel_rfl) (fun _ _ _ h => h) (Or.inl ⟨by rfl, ?_⟩) (by assumption) ?_
          rotate_left
          · intro w0 hSw
            (try dsimp only at hSw)
            go_simp
            try with_reducible rfl
          simp only [Act.put, List.getElem_toArray, List.getElem_cons_zero, List.getElem_cons_succ, List.setIfInBounds_toArray, List.set_cons_zero, List.set_cons_succ]
          refine wpAnyH_take (i := 14) (v := ?_) rfl (by kernel_rfl) (by kernel_rfl) (by kernel_rfl) (fun _ _ _ h => h) (Or.inl ⟨by rfl, ?_⟩) (by assumption) ?_
          rotate_left
          · intro w0 hSw
            (try dsimp only at hSw)
            go_simp
            try with_reducible rfl
          simp only [Act.put, List.getElem_toArray, List.getElem_cons_zero, List.getElem_cons_succ, List.setIfInBounds_toArray, List.set_cons_zero, List.set_cons_succ]
          refine wpAnyH_take (i := 15) (v := ?_) rfl (by kernel_rfl) (by kernel_rfl) (by kernel_rfl) (fun _ _ _ h => h) (Or.inl ⟨by rfl, ?_⟩) (by assumption) ?_
          rotate_left
          · intro w0 hSw
            (try dsimp only at hSw)
            go_simp
            try with_reducible rfl
          simp only [Act.put, List.getElem_toArray, List.getElem_cons_zero, List.getElem_cons_succ, List.setIfInBounds_toArray, List.set_cons_zero, List.set_cons_succ]
          refine wpAnyH_take (i := 16) (v := ?_) rfl (by kernel_rfl) (by kernel_rfl) (by kernel_rfl) (fun _ _ _ h => h) (Or.inl ⟨by rfl, ?_⟩) (by assumption) ?_
          rotate_left
          · intro w0 hSw
            (try dsimp only at hSw)
            go_simp
            try with_reducible rfl
          simp only [Act.put, List.getElem_toArray, List.getElem_cons_zero, List.getElem_cons_succ, List.setIfInBounds_toArray, List.set_cons_zero, List.set_cons_succ]
          refine wpAnyH_ready (rs := [17]) (by kernel_rfl) (by simp) ?_
          refine AllReadyH.cons rfl (fun K hK => ?_) AllReadyH.nil
          go_simp
          go_at_call 31
          refine (sameAcc_true m.ak m.aa m.an 0 0 _ _ _ _ _ _ m.ab _ (RdB.drewN 1 RX8.out) (RdB.drewN 1 RW8.out)).mono ?_
          rintro r w9 ⟨rfl, b9⟩
          have z9 := b9.size
          simp at z9
          have hb9a := fun o => b9.cell (p := ⟨w6.heap.size, o, none⟩) (by simp; try omega)
          have hb9b := fun o => b9.cell (p := ⟨w7.heap.size, o, none⟩) (by simp; try omega)
          have hb9t := fun o => b9.cell (p := ⟨wr.heap.size, o, none⟩) (by simp; try omega)
          have V9 := conv_rd (w := w9) 22 9 Try.underlying22 Try.underlying9 ((RdB.drewN 1 RD8.out).below b9)
          go_wp2_with fail
          refine hK.out _ _ ?_ (fun hHeld => ?_)
          · try dsimp only
            go_keep
          clear hK K
          try simp only [Act.put, List.getElem_toArray, List.getElem_cons_zero, List.getElem_cons_succ, List.setIfInBounds_toArray, List.set_cons_zero, List.set_cons_succ]
          refine wpAnyH_take (i := 18) (v := ?_) rfl (by kernel_rfl) (by kernel_rfl) (by kernel_rfl) (fun _ _ _ h => h) (Or.inl ⟨by rfl, ?_⟩) (by assumption) ?_
          rotate_left
          · intro w0 hSw
            (try dsimp only at hSw)
            go_simp
            try with_reducible rfl
          simp only [Act.put, List.getElem_toArray, List.getElem_cons_zero, List.getElem_cons_succ, List.setIfInBounds_toArray, List.set_cons_zero, List.set_cons_succ]
          refine wpAnyH_take (i := 19) (v := ?_) rfl (by kernel_rfl) (by kernel_rfl) (by kernel_rfl) (fun _ _ _ h => h) (Or.inl ⟨by rfl, ?_⟩) (by assumption) ?_
          rotate_left
          · intro w0 hSw
            (try dsimp only at hSw)
            go_simp
            try with_reducible rfl
          simp only [Act.put, List.getElem_toArray, List.getElem_cons_zero, List.getElem_cons_succ, List.setIfInBounds_toArray, List.set_cons_zero, List.set_cons_succ]
          refine wpAnyH_take (i := 20) (v := ?_) rfl (by kernel_rfl) (by kernel_rfl) (by kernel_rfl) (fun _ _ _ h => h) (Or.inl ⟨by rfl, ?_⟩) (by assumption) ?_
          rotate_left
          · intro w0 hSw
            (try dsimp only at hSw)
            go_simp
            try with_reducible rfl
          simp only [Act.put, List.getElem_toArray, List.getElem_cons_zero, List.getElem_cons_succ, List.setIfInBounds_toArray, List.set_cons_zero, List.set_cons_succ]
          refine wpAnyH_take (i := 21) (v := ?_) rfl (by kernel_rfl) (by kernel_rfl) (by kernel_rfl) (fun _ _ _ h => h) (Or.inl ⟨by rfl, ?_⟩) (by assumption) ?_
          rotate_left
          · intro w0 hSw
            (try dsimp only at hSw)
            go_simp
            try with_reducible rfl
          simp only [Act.put, List.getElem_toArray, List.getElem_cons_zero, List.getElem_cons_succ, List.setIfInBounds_toArray, List.set_cons_zero, List.set_cons_succ]
          refine wpAnyH_take (i := 22) (v := ?_) rfl (by kernel_rfl) (by kernel_rfl) (by kernel_rfl) (fun _ _ _ h => h) (Or.inl ⟨by rfl, ?_⟩) (by assumption) ?_
          rotate_left
          · intro w0 hSw
            (try dsimp only at hSw)
            go_simp
            try with_reducible rfl
          simp only [Act.put, List.getElem_toArray, List.getElem_cons_zero, List.getElem_cons_succ, List.setIfInBounds_toArray, List.set_cons_zero, List.set_cons_succ]
          refine wpAnyH_ready (rs := [23]) (by kernel_rfl) (by simp) ?_
          refine AllReadyH.cons rfl (fun K hK => ?_) AllReadyH.nil
          go_simp
          go_at_call 31
          refine (sameAcc_true m.ak m.aa m.an 0 0 _ _ _ _ _ _ m.ab _ ((RdB.drewN 1 RX8.out).below b9) ((RdB.drewN 1 RY8.out).below b9)).mono ?_
          rintro r w10 ⟨rfl, b10⟩
          have z10 := b10.size
          have hb10a := fun o => b10.cell (p := ⟨w6.heap.size, o, none⟩) (by simp; try omega)
          have hb10b := fun o => b10.cell (p := ⟨w7.heap.size, o, none⟩) (by simp; try omega)
          have hb10t := fun o => b10.cell (p := ⟨wr.heap.size, o, none⟩) (by simp; try omega)
          have V10 := conv_rd (w := w10) 22 9 Try.underlying22 Try.underlying9 (((RdB.drewN 1 RD8.out).below b9).below b10)
          go_wp2_with fail
          refine hK.out _ _ ?_ (fun hHeld => ?_)
          · try dsimp only
            go_keep
          clear hK K
          try simp only [Act.put, List.getElem_toArray, List.getElem_cons_zero, List.getElem_cons_succ, List.setIfInBounds_toArray, List.set_cons_zero, List.set_cons_succ]
          refine wpAnyH_take (i := 24) (v := ?_) rfl (by kernel_rfl) (by kernel_rfl) (by kernel_rfl) (fun _ _ _ h => h) (Or.inl ⟨by rfl, ?_⟩) (by assumption) ?_
          rotate_left
          · intro w0 hSw
            (try dsimp only at hSw)
            go_simp
            try with_reducible rfl
          simp only [Act.put, List.getElem_toArray, List.getElem_cons_zero, List.getElem_cons_succ, List.setIfInBounds_toArray, List.set_cons_zero, List.set_cons_succ]
          refine wpAnyH_take (i := 25) (v := ?_) rfl (by kernel_rfl) (by kernel_rfl) (by kernel_rfl) (fun _ _ _ h => h) (Or.inl ⟨by rfl, ?_⟩) (by assumption) ?_
          rotate_left
          · intro w0 hSw
            (try dsimp only at hSw)
            go_simp
            try with_reducible rfl
          simp only [Act.put, List.getElem_toArray, List.getElem_cons_zero, List.getElem_cons_succ, List.setIfInBounds_toArray, List.set_cons_zero, List.set_cons_succ]
          refine wpAnyH_take (i := 26) (v := ?_) rfl (by kernel_rfl) (by kernel_rfl) (by kernel_rfl) (fun _ _ _ h => h) (Or.inl ⟨by rfl, ?_⟩) (by assumption) ?_
          rotate_left
          · intro w0 hSw
            (try dsimp only at hSw)
            go_simp
            try with_reducible rfl
          simp only [Act.put, List.getElem_toArray, List.getElem_cons_zero, List.getElem_cons_succ, List.setIfInBounds_toArray, List.set_cons_zero, List.set_cons_succ]
          refine wpAnyH_take (i := 27) (v := ?_) rfl (by kernel_rfl) (by kernel_rfl) (by kernel_rfl) (fun _ _ _ h => h) (Or.inl ⟨by rfl, ?_⟩) (by assumption) ?_
          rotate_left
          · intro w0 hSw
            (try dsimp only at hSw)
            go_simp
            try with_reducible rfl
          simp only [Act.put, List.getElem_toArray, List.getElem_cons_zero, List.getElem_cons_succ, List.setIfInBounds_toArray, List.set_cons_zero, List.set_cons_succ]
          refine wpAnyH_take (i := 30) (v := ?_) rfl (by kernel_rfl) (by kernel_rfl) (by kernel_rfl) (fun _ _ _ h => h) (Or.inl ⟨by rfl, ?_⟩) (by assumption) ?_
          rotate_left
          · intro w0 hSw
            (try dsimp only at hSw)
            go_simp
            try with_reducible rfl
          simp only [Act.put, List.getElem_toArray, List.getElem_cons_zero, List.getElem_cons_succ, List.setIfInBounds_toArray, List.set_cons_zero, List.set_cons_succ]
          refine wpAnyH_take (i := 31) (v := ?_) rfl (by kernel_rfl) (by kernel_rfl) (by kernel_rfl) (fun _ _ _ h => h) (Or.inl ⟨by rfl, ?_⟩) (by assumption) ?_
          rotate_left
          · intro w0 hSw
            (try dsimp only at hSw)
            go_simp
            try with_reducible rfl
          simp only [Act.put, List.getElem_toArray, List.getElem_cons_zero, List.getElem_cons_succ, List.setIfInBounds_toArray, List.set_cons_zero, List.set_cons_succ]
          refine wpAnyH_ready (rs := [28]) (by kernel_rfl) (by simp) ?_
          refine AllReadyH.cons rfl (fun K hK => ?_) AllReadyH.nil
          go_simp
          go_at_call 28
          refine (cp_bytes F q m _ (((HC8.out.keep (M := fun _ => False) ((Keep.refl _ _).drew) (fun _ _ => id)).below b9).below b10) (by have := HBD.out; omega)).mono ?_
          rintro r w11 ⟨g0, gl, gc, rfl, o11, b11⟩
          have z11 := b11.size
          have hb11a := fun o => b11.cell (p := ⟨w6.heap.size, o, none⟩) (by simp; try omega)
          have hb11b := fun o => b11.cell (p := ⟨w7.heap.size, o, none⟩) (by simp; try omega)
          have hb11t := fun o => b11.cell (p := ⟨wr.heap.size, o, none⟩) (by simp; try omega)
          have V11 := conv_rd (w := w11) 22 9 Try.underlying22 Try.underlying9 ((((RdB.drewN 1 RD8.out).below b9).below b10).below b11)
          have X11 := conv_rd (w := w11) 22 9 Try.underlying22 Try.underlying9 (o11.rd)
          go_wp2_with fail
          refine hK.out _ _ ?_ (fun hHeld => ?_)
          · try dsimp only
            go_keep
          clear hK K
          try simp only [Act.put, List.getElem_toArray, List.getElem_cons_zero, List.getElem_cons_succ, List.setIfInBounds_toArray, List.set_cons_zero, List.set_cons_succ]
          refine wpAnyH_ready (rs := [29]) (by kernel_rfl) (by simp) ?_
          refine AllReadyH.cons rfl (fun K hK => ?_) AllReadyH.nil
          go_simp
          refine hK.out _ _ ?_ (fun hHeld => ?_)
          · try dsimp only
            go_keep
          clear hK K
          try simp only [Act.put, List.getElem_toArray, List.getElem_cons_zero, List.getElem_cons_succ, List.setIfInBounds_toArray, List.set_cons_zero, List.set_cons_succ]
          refine wpAnyH_take (i := 32) (v := ?_) rfl (by kernel_rfl) (by kernel_rfl) (by kernel_rfl) (fun _ _ _ h => h) (Or.inl ⟨by rfl, ?_⟩) (by assumption) ?_
          rotate_left
          · intro w0 hSw
            (try dsimp only at hSw)
            go_simp
            try with_reducible rfl
          simp only [Act.put, List.getElem_toArray, List.getElem_cons_zero, List.getElem_cons_succ, List.setIfInBounds_toArray, List.set_cons_zero, List.set_cons_succ]
          refine wpAnyH_take (i := 33) (v := ?_) rfl (by kernel_rfl) (by kernel_rfl) (by kernel_rfl) (fun _ _ _ h => h) (Or.inl ⟨by rfl, ?_⟩) (by assumption) ?_
          rotate_left
          · intro w0 hSw
            (try dsimp only at hSw)
            go_simp
            try with_reducible rfl
          simp only [Act.put, List.getElem_toArray, List.getElem_cons_zero, List.getElem_cons_succ, List.setIfInBounds_toArray, List.set_cons_zero, List.set_cons_succ]
          refine wpAnyH_done (by kernel_rfl) ?_ _
          have hb811 : Below w8.heap.size w8 w11 := ((bel_drewN 1 (Below.refl w8.heap.size w8)).trans (b9.mono (by simp))).trans ((b10.mono (by omega)).trans (b11.mono (by omega)))
          have B11 := Lib.hid (B8.out.trans (hb811.mono (by omega)))
          have HC11 := Lib.hid (HC8.out.below hb811)
          have z811 := hb811.size
          clear hHeld o11 V9 V10 V11 X11 hb9a hb9b hb9t hb10a hb10b hb10t hb11a hb11b hb11t hb811 b9 b10 b11 ca0 ca1 ca2 ca3 ca4 ca5 cb0 cb1 cb2 cb3 cb4 cb5 ct2 ct3 ct4 ct5 ct6 ct7 ct8 CV HA8 HB8 HT8 RD8 RW8 RX8 RY8 HC8 B8
          by_cases hjl : j < T.length
          · obtain ⟨b, off, rfl, hcell⟩ : ∃ b off, t0 = some ⟨b, off, none⟩ ∧ ∀ i, i < T.length → w11.cell? ⟨b, off + i * 3, none⟩ = some (.int .u64 (gA T i).v) ∧ w11.cell? ⟨b, off + i * 3 + 1, none⟩ = some (.bool (gA T i).d) ∧ w11.cell? ⟨b, off + i * 3 + 2, none⟩ = some (gA T i).s := by
              rcases HT.out.below B11.out with ⟨_, e⟩ | ⟨_, _, _, e, _⟩ | ⟨b, off, cap, e1, e2, e3, e4⟩
              · rw [e] at hjl; cases hjl
              · rw [e] at hjl; cases hjl
              · cases e1
                exact ⟨b, off, rfl, e4⟩
            obtain ⟨y0, y1, y2⟩ := hcell j hjl
            obtain ⟨sa, sn, scc, hsv⟩ := HS.out j hjl
            have hrd := HTS.out j hjl
            rw [hsv] at y2 hrd
            have hsn := rd_len hrd
            have HSN := Lib.hid hsn
            have RJ := Lib.hid (hrd.below B11.out)
            have hjli : (j : Int) < (T.length : Int) := by omega
            clear hcell hsv hrd hsn
            by_cases hbig : (100 : Int) < (sn : Int)
            · go_wp2
              go_ret
              exact ⟨rfl, B11.out⟩
            · go_wp2_with fail
              refine (cp_take F q m (gA T j).b _ _ sa sn scc _ HC11.out RJ.out (by have := HBD.out; have := HSN.out; omega) (by have := HBD.out; omega) (by have := HBD.out; omega) (by have := HBD.out; omega) (by have := HBD.out; omega)).mono ?_
              rintro e w12 ⟨rfl, F', hcp', hF', k12⟩
              have z12 := k12.size
              have HC12 := Lib.hid hcp'
              have HF' := Lib.hid hF'
              have B12 := Lib.hid (B11.out.trans (k12.below (by omega) (fun k h1 h2 => by have := HF.out k h2; omega)))
              clear hcp' hF' k12
              go_wp2
              refine ⟨⟨j + 1, F', by omega, by go_num, fun x h1 h2 => ?_, ?_, fun i hi => ?_, B12.out⟩, by simp [intOf]; omega⟩
              · by_cases e : x = j
                · subst e
                  have := HSN.out
                  omega
                · exact HJB.out x (by omega) h2
              · rw [take_snocA T j hjl, CpM.run_snoc, ← HM.out]
                exact HC12.out
              · rcases HF'.out i hi with h | h
                · exact HF.out i h
                · omega
          · have hjli : ¬ (j : Int) < (T.length : Int) := by omega
            go_wp2
            refine ⟨⟨j + 1, F, by omega, by go_num, fun x h1 h2 => HJB.out x (by omega) h2, ?_, fun i hi => HF.out i hi, B11.out⟩, by simp [intOf]; omega⟩
            rw [List.take_of_length_le (by omega), ← List.take_of_length_le (show T.length ≤ j by omega), ← HM.out]
            exact HC11.out
        · have e1 : (j : Int) = (T.length : Int) + 1 := by omega
          have BX := Lib.hid hbel
          clear hbel hcp hF hjb
          go_wp2
          go_ret
          exact ⟨rfl, BX.out⟩
set_option maxHeartbeats 4000000 in
theorem steps_hi (kind a n : Int) (s0 t0 : Option Addr) (sl sc tn tc : Nat) (l : List Int) (T : List AnsV) (w : World) (h : RdB w (.slice s0 sl sc) l) (hl : IsB l) (hT : RdA w (.slice t0 tn tc) T) (hS : Sls T) (hTs : RdAs w T) (hk : 0 ≤ kind ∧ kind ≤ 255) (hn0 : -9223372036854775808 ≤ n)
    (c0 : ¬ (600 : Int) < (sl : Int)) (c1 : ¬ (90 : Int) < (tn : Int)) (c2 : 600 < n) (c3 : ¬ n ≤ 131072) (c4 : ¬ 1099511627776 < a) (c5 : ¬ a < -1099511627776) :
    Calls Try.prog 7 #[.int .u8 kind, .int .i64 a, .int .i64 n, .slice s0 sl sc, .slice t0 tn tc] w fun r w' => r = .returned (.bool true) ∧ Below w.heap.size w w' := by
  have hll := Lib.hid (rd_len h)
  have hll6 : l.length ≤ 600 := by have := hll.out; omega
  obtain ⟨htc, htl⟩ := rdA_cap hT
  subst htl
  have htl9 : T.length ≤ 90 := by omega
  have HR := Lib.hid h
  have HT := Lib.hid hT
  have HS := Lib.hid hS
  have HTS := Lib.hid hTs
  have HK := Lib.hid hk
  clear h hT hS hTs hk
  go_enter Try.func7, Try.ntmps7
  go_wp2_with fail
  refine (kFixed _).mono ?_
  rintro r w1 ⟨rfl, b1⟩
  have z1 := b1.size
  have B1 := Lib.hid b1
  clear b1
  go_wp2_with (refine list_app rfl (.tmp 47) (.tmp 48) rfl w1.heap.size _ _ [] l rfl (own_empty (w1.alloc (.cells #[] 5)) w1.heap.size _ _ #[] (MapKept.heap_alloc w1 _).1 (Nat.le_refl _)) rfl ((HR.out.below B1.out).below ((Below.refl _ _).alloc (Nat.le_refl _) _)) (by simp; omega) (by simp) ?_)
  intro v' w2 p2
  obtain ⟨oa, on, oc, rfl⟩ := p2.1.isSliceC
  have B2' : Below w1.heap.size w1 w2 := p2.below ((Below.refl _ _).alloc (Nat.le_refl _) _) (by simp) (by intro k hk; cases hk; exact Nat.le_refl _)
  have z2 := B2'.size
  have HO2 := Lib.hid (show OwB 5 w1.heap.size w2 (.slice oa on oc) l by simpa using p2.1)
  have B2 := Lib.hid (B1.out.trans (B2'.mono z1))
  clear p2 B2'
  go_wp2_with fail
  refine (made_any kind a n oa on oc l _ HO2.out.rd (by omega) HK.out).mono ?_
  rintro r w3 ⟨q, rfl, hq, b3, hcp⟩
  unfold ptr
  have z3 := b3.size
  have ql := hcp.2.1 q hcp.1
  have hon : on = l.length := rd_len HO2.out.rd
  have HON := Lib.hid hon
  have HO3 := Lib.hid (HO2.out.below b3)
  have HC3 := Lib.hid hcp
  have B3 := Lib.hid (B2.out.trans (b3.mono (by omega)))
  clear b3 hcp hon
  go_wp2_with fail
  go_loopw [13, 57] (fun x i wr => ∃ k : Nat, k ≤ l.length ∧ i = .int .i64 k ∧ (∃ l', l'.length = l.length ∧ IsB l' ∧ OwB 5 w1.heap.size wr (.slice oa on oc) l') ∧ Keep (fun i => (Value.slice oa on oc).ownBlock = some i) w3 wr) (fun _ i _ => l.length - (intOf i).toNat)
  case atStart => exact ⟨0, by omega, rfl, ⟨l, rfl, hl, HO3.out⟩, Keep.refl _ _⟩
  case round =>
    obtain ⟨k, hk, rfl, ⟨l', hl', hlb, hown⟩, hkp⟩ := hrel
    obtain rfl : on = l.length := HON.out
    by_cases hlt : k < l.length
    · obtain ⟨g, cap, hv, hg1, hg2, hg3, hg4, hcell⟩ := hown.slice (by omega)
      rw [hl'] at hv
      cases hv
      have hcc := hcell k (by omega)
      have how2 : wr.ownsRow w1.heap.size 5 1 (.slice (some ⟨g, 0, none⟩) l.length oc) l.length (l'.map (Value.int .u8)) := by
        have hx := hown
        unfold OwB at hx
        rw [hl'] at hx
        exact hx
      have hfr := World.ownsRow.frozenAt how2 k
      have hbb := hlb.getD k
      have HOW := Lib.hid how2
      have HKP := Lib.hid hkp
      have HLB := Lib.hid hlb
      clear hcell hown how2 hkp hlb
      go_wp2
      refine ⟨⟨k + 1, by omega, by go_num, ⟨l'.set k ((gB l' k + 1) % 256), by simp [hl'], ?_, ?_⟩, HKP.out.setCell (p := ⟨g, k, none⟩) (.inl rfl) _⟩, by simp [intOf]; omega⟩
      · intro x hx
        rcases List.mem_or_eq_of_mem_set hx with hx | hx
        · exact HLB.out x hx
        · subst hx
          omega
      · have hst := (HOW.out.stored k (.int .u8 ((gB l' k + 1) % 256))).1
        unfold OwB
        rw [List.length_set, hl', List.map_set]
        exact hst
    · obtain rfl : k = l.length := by omega
      clear hlt hk
      have hob : ∀ i, (Value.slice oa l.length oc).ownBlock = some i → w1.heap.size ≤ i ∧ i < w2.heap.size := fun i hi => World.ownsRow.lt HO2.out i hi
      have zr := hkp.size
      have HCr := Lib.hid (HC3.out.keep hkp (fun i hi e => by have := hob i e; omega))
      have Br := Lib.hid (B3.out.trans (hkp.below (by omega) (fun k h1 h2 => by have := hob k h2; omega)))
      clear hkp hown hlb hl' l' hob HC3 B3 HO2 HO3
      obtain ⟨m0, hm0⟩ : ∃ m0, m0 = cpM0 kind a n l := ⟨_, rfl⟩
      rw [← hm0] at HCr
      have HM0 := Lib.hid hm0
      clear hm0
      go_wp2_with fail
      go_loopw [14] (fun i wx => ∃ (j : Nat) (F : Nat → Prop), j ≤ T.length + 1 ∧ i = .int .i64 j ∧ (∀ x, x < j → x < T.length → (gA T x).b.length ≤ 100) ∧ Cp wx F q (m0.run (T.take j)) ∧ (∀ i, F i → w.heap.size ≤ i) ∧ Below w.heap.size w wx) (fun i _ => T.length + 1 - (intOf i).toNat)
      case atStart => exact ⟨0, _, by omega, rfl, fun x hx => by omega, HCr.out, fun i hi => by omega, Br.out⟩
      case round =>
        obtain ⟨j, F, hj, rfl, hjb, hcp, hF, hbel⟩ := hrel
        by_cases hjT : j ≤ T.length
        · have zx := hbel.size
          have hbd := cpM_bd (kind := kind) (a := a) (n := n) (l := l) hjT htl9 hll6 (by omega) (by omega) (fun i hi => hjb i hi (by omega))
          rw [← HM0.out] at hbd
          obtain ⟨m, hm⟩ : ∃ m, m = m0.run (T.take j) := ⟨_, rfl⟩
          rw [← hm] at hbd hcp
          have HM := Lib.hid hm
          have HBD := Lib.hid hbd
          have HCP := Lib.hid hcp
          have HF := Lib.hid hF
          have BX := Lib.hid hbel
          have HJB := Lib.hid hjb
          have qx := hcp.2.1 q hcp.1
          clear hm hbd hcp hF hbel hjb
          go_wp2_with fail
          have htp0 : Tp (wr.alloc (Obj.cells #[Value.slice t0 j tc, Value.int IntKind.i64 0, Value.int IntKind.i64 0, Value.int IntKind.i64 0, Value.int IntKind.i64 0, Value.int IntKind.u64 0, Value.int IntKind.u64 0, Value.slice none 0 0, Value.bool false] 60)) wr.heap.size (.slice t0 j tc) 0 accZ false := Blk.made wr #[Value.slice t0 j tc, Value.int IntKind.i64 0, Value.int IntKind.i64 0, Value.int IntKind.i64 0, Value.int IntKind.i64 0, Value.int IntKind.u64 0, Value.int IntKind.u64 0, Value.slice none 0 0, Value.bool false] _
          have hba : Below w.heap.size w (wr.alloc (Obj.cells #[Value.slice t0 j tc, Value.int IntKind.i64 0, Value.int IntKind.i64 0, Value.int IntKind.i64 0, Value.int IntKind.i64 0, Value.int IntKind.u64 0, Value.int IntKind.u64 0, Value.slice none 0 0, Value.bool false] 60)) := BX.out.alloc zx _
          refine (said_any wr.heap.size (.slice t0 j tc) (T.take j) kind a n s0 sl sc l _ htp0 (TOk.mk0 HT.out HS.out HTS.out (by omega) j (fun i h1 h2 => by have := HJB.out i h1 h2; omega) hba zx hjT) (HR.out.below hba) (fun h0 e => by have := HR.out.blk h0 _ e; omega) (by omega) HK.out hn0 (by omega) (by omega)).mono ?_
          rw [← HM0.out, ← HM.out]
          rintro e w5 ⟨k5, r0, rl, rc, kk, u0, ul, uc, rfl, hrd, htp, hrw⟩
          have z5 := k5.size
          rw [World.size_alloc] at z5
          have tbl := htp.lt
          have KS := Lib.hid (((Keep.refl (fun i => i = wr.heap.size) wr).alloc _).trans k5)
          have HCP5 := Lib.hid (HCP.out.keep KS.out (fun i hi e => by have := HCP.out.2.1 i hi; omega))
          have HTP5 := Lib.hid htp
          have RD5 := Lib.hid hrd
          have RW5 := Lib.hid hrw
          have B5 := Lib.hid (BX.out.trans (KS.out.below zx (fun k h1 h2 => by omega)))
          clear htp0 hba k5 htp hrd hrw KS HCP
          go_wp2_with fail
          refine (cp_next F q m _ HCP5.out).mono ?_
          rintro e w6 ⟨x0, xl, xc, rfl, o6, b6⟩
          have z6 := b6.size
          have HCP6 := Lib.hid (HCP5.out.below b6)
          have HTP6 := Lib.hid (HTP5.out.below b6 tbl)
          have RD6 := Lib.hid (RD5.out.below b6)
          have RW6 := Lib.hid (RW5.out.below b6)
          have B6 := Lib.hid (B5.out.trans (b6.mono (by omega)))
          have RX6 := Lib.hid o6.rd
          clear b6 o6 HCP5 HTP5 RD5 RW5 B5
          go_wp2_with fail
          refine (cp_next F q m _ (HCP6.out.below ((Below.refl _ _).alloc (Nat.le_refl _) _))).mono ?_
          rintro e w7 ⟨y0, yl, yc, rfl, o7, b7⟩
          have z7 := b7.size
          rw [World.size_alloc] at z7
          have HA7 := Lib.hid (Blk.below (Blk.made w6 #[Value.int IntKind.i64 m.ak, Value.int IntKind.i64 m.aa, Value.int IntKind.i64 m.an, Value.int IntKind.u64 0, Value.int IntKind.u64 0, Value.slice x0 xl xc] 50) b7 (by simp))
          have HCP7 := Lib.hid ((HCP6.out.below ((Below.refl _ _).alloc (Nat.le_refl _) _)).below b7)
          have HTP7 := Lib.hid (Blk.below (Blk.alloc HTP6.out _) b7 (by simp; omega))
          have RD7 := Lib.hid ((RD6.out.below ((Below.refl _ _).alloc (Nat.le_refl _) _)).below b7)
          have RW7 := Lib.hid ((RW6.out.below ((Below.refl _ _).alloc (Nat.le_refl _) _)).below b7)
          have RX7 := Lib.hid ((RX6.out.below ((Below.refl _ _).alloc (Nat.le_refl _) _)).below b7)
          have B7 := Lib.hid ((B6.out.alloc (by omega) _).trans (b7.mono (by simp; omega)))
          have RY7 := Lib.hid o7.rd
          clear b7 o7 HCP6 HTP6 RD6 RW6 RX6 B6
          go_wp2_with fail
          obtain ⟨w8, hw8⟩ : ∃ w8, w8 = w7.alloc (Obj.cells #[Value.int IntKind.i64 m.ak, Value.int IntKind.i64 m.aa, Value.int IntKind.i64 m.an, Value.int IntKind.u64 0, Value.int IntKind.u64 0, Value.slice y0 yl yc] 50) := ⟨_, rfl⟩
          rw [← hw8]
          have b8 : Below w7.heap.size w7 w8 := by rw [hw8]; exact (Below.refl _ _).alloc (Nat.le_refl _) _
          have HB8 := Lib.hid (show Blk w8 w7.heap.size [Value.int IntKind.i64 m.ak, Value.int IntKind.i64 m.aa, Value.int IntKind.i64 m.an, Value.int IntKind.u64 0, Value.int IntKind.u64 0, Value.slice y0 yl yc] by rw [hw8]; exact Blk.made w7 _ _)
          have z8 : w7.heap.size < w8.heap.size := by rw [hw8, World.size_alloc]; omega
          clear hw8
          have HA8 := Lib.hid (HA7.out.below b8 (by omega))
          have HT8 := Lib.hid (Blk.below HTP7.out b8 (by omega))
          have HC8 := Lib.hid (HCP7.out.below b8)
          have RD8 := Lib.hid (RD7.out.below b8)
          have RW8 := Lib.hid (RW7.out.below b8)
          have RX8 := Lib.hid (RX7.out.below b8)
          have RY8 := Lib.hid (RY7.out.below b8)
          have B8 := Lib.hid (B7.out.trans (b8.mono (by omega)))
          clear HA7 HTP7 HCP7 RD7 RW7 RX7 RY7 B7 b8
          obtain ⟨ca0, ca1, ca2, ca3, ca4, ca5⟩ := Blk.c6s (w := w8) HA8.out
          obtain ⟨cb0, cb1, cb2, cb3, cb4, cb5⟩ := Blk.c6s (w := w8) HB8.out
          obtain ⟨-, -, ct2, ct3, ct4, ct5, ct6, ct7, ct8⟩ := Tp.cells (w := w8) HT8.out
          have CV := conv_rd (w := w8.drew) 22 9 Try.underlying22 Try.underlying9 (RdB.drewN 1 RD8.out)
          go_wp2_with fail
          refine wp_region_held_drew (S := (fun w' => w'.cell? ⟨w6.heap.size, 0, none⟩ = some (.int .i64 m.ak) ∧ w'.cell? ⟨w6.heap.size, 1, none⟩ = some (.int .i64 m.aa) ∧ w'.cell? ⟨w6.heap.size, 2, none⟩ = some (.int .i64 m.an) ∧ w'.cell? ⟨w6.heap.size, 3, none⟩ = some (.int .u64 0) ∧ w'.cell? ⟨w6.heap.size, 4, none⟩ = some (.int .u64 0) ∧ w'.cell? ⟨w6.heap.size, 5, none⟩ = some (.slice x0 xl xc) ∧ w'.cell? ⟨w7.heap.size, 0, none⟩ = some (.int .i64 m.ak) ∧ w'.cell? ⟨w7.heap.size, 1, none⟩ = some (.int .i64 m.aa) ∧ w'.cell? ⟨w7.heap.size, 2, none⟩ = some (.int .i64 m.an) ∧ w'.cell? ⟨w7.heap.size, 3, none⟩ = some (.int .u64 0) ∧ w'.cell? ⟨w7.heap.size, 4, none⟩ = some (.int .u64 0) ∧ w'.cell? ⟨w7.heap.size, 5, none⟩ = some (.slice y0 yl yc) ∧ w'.cell? ⟨wr.heap.size, 2, none⟩ = some (.int .i64 m.ak) ∧ w'.cell? ⟨wr.heap.size, 3, none⟩ = some (.int .i64 m.aa) ∧ w'.cell? ⟨wr.heap.size, 4, none⟩ = some (.int .i64 m.an) ∧ w'.cell? ⟨wr.heap.size, 5, none⟩ = some (.int .u64 0) ∧ w'.cell? ⟨wr.heap.size, 6, none⟩ = some (.int .u64 0) ∧ w'.cell? ⟨wr.heap.size, 7, none⟩ = some (.slice u0 ul uc) ∧ w'.cell? ⟨wr.heap.size, 8, none⟩ = some (.bool m.live) ∧ (convert 22 9 (.slice r0 rl rc)).run Try.prog w' = .ok (.string (strOfNums m.hv)) w')) (by kernel_rfl) ?_ (fun hHeld => ?_)
          · try dsimp only
            go_keep
          refine wpAnyH_take (i := 0) (v := ?_) rfl (by kernel_rfl) (by kernel_rfl) (by kernel_rfl) (fun _ _ _ h => h) (Or.inl ⟨by rfl, ?_⟩) (by assumption) ?_
          rotate_left
          · intro w0 hSw
            (try dsimp only at hSw)
            go_simp
            try with_reducible rfl
          simp only [Act.put, List.getElem_toArray, List.getElem_cons_zero, List.getElem_cons_succ, List.setIfInBounds_toArray, List.set_cons_zero, List.set_cons_succ]
          refine wpAnyH_take (i := 1) (v := ?_) rfl (by kernel_rfl) (by kernel_rfl) (by kernel_rfl) (fun _ _ _ h => h) (Or.inl ⟨by rfl, ?_⟩) (by assumption) ?_
          rotate_left
          · intro w0 hSw
            (try dsimp only at hSw)
            go_simp
            try with_reducible rfl
          simp only [Act.put, List.getElem_toArray, List.getElem_cons_zero, List.getElem_cons_succ, List.setIfInBounds_toArray, List.set_cons_zero, List.set_cons_succ]
          refine wpAnyH_take (i := 2) (v := ?_) rfl (by kernel_rfl) (by kernel_rfl) (by kernel_rfl) (fun _ _ _ h => h) (Or.inl ⟨by rfl, ?_⟩) (by assumption) ?_
          rotate_left
          · intro w0 hSw
            (try dsimp only at hSw)
            go_simp
            try with_reducible rfl
          simp only [Act.put, List.getElem_toArray, List.getElem_cons_zero, List.getElem_cons_succ, List.setIfInBounds_toArray, List.set_cons_zero, List.set_cons_succ]
          refine wpAnyH_take (i := 3) (v := ?_) rfl (by kernel_rfl) (by kernel_rfl) (by kernel_rfl) (fun _ _ _ h => h) (Or.inl ⟨by rfl, ?_⟩) (by assumption) ?_
          rotate_left
          · intro w0 hSw
            (try dsimp only at hSw)
            go_simp
            try with_reducible rfl
          simp only [Act.put, List.getElem_toArray, List.getElem_cons_zero, List.getElem_cons_succ, List.setIfInBounds_toArray, List.set_cons_zero, List.set_cons_succ]
          refine wpAnyH_take (i := 4) (v := ?_) rfl (by kernel_rfl) (by kernel_rfl) (by kernel_rfl) (fun _ _ _ h => h) (Or.inl ⟨by rfl, ?_⟩) (by assumption) ?_
          rotate_left
          · intro w0 hSw
            (try dsimp only at hSw)
            go_simp
            try with_reducible rfl
          simp only [Act.put, List.getElem_toArray, List.getElem_cons_zero, List.getElem_cons_succ, List.setIfInBounds_toArray, List.set_cons_zero, List.set_cons_succ]
          refine wpAnyH_take (i := 5) (v := ?_) rfl (by kernel_rfl) (by kernel_rfl) (by kernel_rfl) (fun _ _ _ h => h) (Or.inl ⟨by rfl, ?_⟩) (by assumption) ?_
          rotate_left
          · intro w0 hSw
            (try dsimp only at hSw)
            go_simp
            try with_reducible rfl
          simp only [Act.put, List.getElem_toArray, List.getElem_cons_zero, List.getElem_cons_succ, List.setIfInBounds_toArray, List.set_cons_zero, List.set_cons_succ]
          refine wpAnyH_take (i := 6) (v := ?_) rfl (by kernel_rfl) (by kernel_rfl) (by kernel_rfl) (fun _ _ _ h => h) (Or.inl ⟨by rfl, ?_⟩) (by assumption) ?_
          rotate_left
          · intro w0 hSw
            (try dsimp only at hSw)
            go_simp
            try with_reducible rfl
          simp only [Act.put, List.getElem_toArray, List.getElem_cons_zero, List.getElem_cons_succ, List.setIfInBounds_toArray, List.set_cons_zero, List.set_cons_succ]
          refine wpAnyH_take (i := 7) (v := ?_) rfl (by kernel_rfl) (by kernel_rfl) (by kernel_rfl) (fun _ _ _ h => h) (Or.inl ⟨by rfl, ?_⟩) (by assumption) ?_
          rotate_left
          · intro w0 hSw
            (try dsimp only at hSw)
            go_simp
            try with_reducible rfl
          simp only [Act.put, List.getElem_toArray, List.getElem_cons_zero, List.getElem_cons_succ, List.setIfInBounds_toArray, List.set_cons_zero, List.set_cons_succ]
          refine wpAnyH_take (i := 8) (v := ?_) rfl (by kernel_rfl) (by kernel_rfl) (by kernel_rfl) (fun _ _ _ h => h) (Or.inl ⟨by rfl, ?_⟩) (by assumption) ?_
          rotate_left
          · intro w0 hSw
            (try dsimp only at hSw)
            go_simp
            try with_reducible rfl
          simp only [Act.put, List.getElem_toArray, List.getElem_cons_zero, List.getElem_cons_succ, List.setIfInBounds_toArray, List.set_cons_zero, List.set_cons_succ]
          refine wpAnyH_take (i := 9) (v := ?_) rfl (by kernel_rfl) (by kernel_rfl) (by kernel_rfl) (fun _ _ _ h => h) (Or.inl ⟨by rfl, ?_⟩) (by assumption) ?_
          rotate_left
          · intro w0 hSw
            (try dsimp only at hSw)
            go_simp
            try with_reducible rfl
          simp only [Act.put, List.getElem_toArray, List.getElem_cons_zero, List.getElem_cons_succ, List.setIfInBounds_toArray, List.set_cons_zero, List.set_cons_succ]
          refine wpAnyH_take (i := 10) (v := ?_) rfl (by kernel_rfl) (by kernel_rfl) (by kernel_rfl) (fun _ _ _ h => h) (Or.inl ⟨by rfl, ?_⟩) (by assumption) ?_
          rotate_left
          · intro w0 hSw
            (try dsimp only at hSw)
            go_simp
            try with_reducible rfl
          simp only [Act.put, List.getElem_toArray, List.getElem_cons_zero, List.getElem_cons_succ, List.setIfInBounds_toArray, List.set_cons_zero, List.set_cons_succ]
          refine wpAnyH_take (i := 11) (v := ?_) rfl (by kernel_rfl) (by kernel_rfl) (by kernel_rfl) (fun _ _ _ h => h) (Or.inl ⟨by rfl, ?_⟩) (by assumption) ?_
          rotate_left
          · intro w0 hSw
            (try dsimp only at hSw)
            go_simp
            try with_reducible rfl
          simp only [Act.put, List.getElem_toArray, List.getElem_cons_zero, List.getElem_cons_succ, List.setIfInBounds_toArray, List.set_cons_zero, List.set_cons_succ]
          refine wpAnyH_take (i := 12) (v := ?_) rfl (by kernel_rfl) (by kernel_rfl) (by kernel_rfl) (fun _ _ _ h => h) (Or.inl ⟨by rfl, ?_⟩) (by assumption) ?_
          rotate_left
          · intro w0 hSw
            (try dsimp only at hSw)
            go_simp
            try with_reducible rfl
          simp only [Act.put, List.getElem_toArray, List.getElem_cons_zero, List.getElem_cons_succ, List.setIfInBounds_toArray, List.set_cons_zero, List.set_cons_succ]
          refine wpAnyH_take (i := 13) (v := ?_) rfl (by kernel_rfl) (by kernel_rfl) (by kernel_rfl) (fun _ _ _ h => h) (Or.inl ⟨by rfl, ?_⟩) (by assumption) ?_
          rotate_left
          · intro w0 hSw
            (try dsimp only at hSw)
            go_simp
            try with_reducible rfl
          simp only [Act.put, List.getElem_toArray, List.getElem_cons_zero, List.getElem_cons_succ, List.setIfInBounds_toArray, List.set_cons_zero, List.set_cons_succ]
          refine wpAnyH_take (i := 14) (v := ?_) rfl (by kernel_rfl) (by kernel_rfl) (by kernel_rfl) (fun _ _ _ h => h) (Or.inl ⟨by rfl, ?_⟩) (by assumption) ?_
          rotate_left
          · intro w0 hSw
            (try dsimp only at hSw)
            go_simp
            try with_reducible rfl
          simp only [Act.put, List.getElem_toArray, List.getElem_cons_zero, List.getElem_cons_succ, List.setIfInBounds_toArray, List.set_cons_zero, List.set_cons_succ]
          refine wpAnyH_take (i := 15) (v := ?_) rfl (by kernel_rfl) (by kernel_rfl) (by kernel_rfl) (fun _ _ _ h => h) (Or.inl ⟨by rfl, ?_⟩) (by assumption) ?_
          rotate_left
          · intro w0 hSw
            (try dsimp only at hSw)
            go_simp
            try with_reducible rfl
          simp only [Act.put, List.getElem_toArray, List.getElem_cons_zero, List.getElem_cons_succ, List.setIfInBounds_toArray, List.set_cons_zero, List.set_cons_succ]
          refine wpAnyH_take (i := 16) (v := ?_) rfl (by kernel_rfl) (by kernel_rfl) (by kernel_rfl) (fun _ _ _ h => h) (Or.inl ⟨by rfl, ?_⟩) (by assumption) ?_
          rotate_left
          · intro w0 hSw
            (try dsimp only at hSw)
            go_simp
            try with_reducible rfl
          simp only [Act.put, List.getElem_toArray, List.getElem_cons_zero, List.getElem_cons_succ, List.setIfInBounds_toArray, List.set_cons_zero, List.set_cons_succ]
          refine wpAnyH_ready (rs := [17]) (by kernel_rfl) (by simp) ?_
          refine AllReadyH.cons rfl (fun K hK => ?_) AllReadyH.nil
          go_simp
          go_at_call 31
          refine (sameAcc_true m.ak m.aa m.an 0 0 _ _ _ _ _ _ m.ab _ (RdB.drewN 1 RX8.out) (RdB.drewN 1 RW8.out)).mono ?_
          rintro r w9 ⟨rfl, b9⟩
          have z9 := b9.size
          simp at z9
          have hb9a := fun o => b9.cell (p := ⟨w6.heap.size, o, none⟩) (by simp; try omega)
          have hb9b := fun o => b9.cell (p := ⟨w7.heap.size, o, none⟩) (by simp; try omega)
          have hb9t := fun o => b9.cell (p := ⟨wr.heap.size, o, none⟩) (by simp; try omega)
          have V9 := conv_rd (w := w9) 22 9 Try.underlying22 Try.underlying9 ((RdB.drewN 1 RD8.out).below b9)
          go_wp2_with fail
          refine hK.out _ _ ?_ (fun hHeld => ?_)
          · try dsimp only
            go_keep
          clear hK K
          try simp only [Act.put, List.getElem_toArray, List.getElem_cons_zero, List.getElem_cons_succ, List.setIfInBounds_toArray, List.set_cons_zero, List.set_cons_succ]
          refine wpAnyH_take (i := 18) (v := ?_) rfl (by kernel_rfl) (by kernel_rfl) (by kernel_rfl) (fun _ _ _ h => h) (Or.inl ⟨by rfl, ?_⟩) (by assumption) ?_
          rotate_left
          · intro w0 hSw
            (try dsimp only at hSw)
            go_simp
            try with_reducible rfl
          simp only [Act.put, List.getElem_toArray, List.getElem_cons_zero, List.getElem_cons_succ, List.setIfInBounds_toArray, List.set_cons_zero, List.set_cons_succ]
          refine wpAnyH_take (i := 19) (v := ?_) rfl (by kernel_rfl) (by kernel_rfl) (by kernel_rfl) (fun _ _ _ h => h) (Or.inl ⟨by rfl, ?_⟩) (by assumption) ?_
          rotate_left
          · intro w0 hSw
            (try dsimp only at hSw)
            go_simp
            try with_reducible rfl
          simp only [Act.put, List.getElem_toArray, List.getElem_cons_zero, List.getElem_cons_succ, List.setIfInBounds_toArray, List.set_cons_zero, List.set_cons_succ]
          refine wpAnyH_take (i := 20) (v := ?_) rfl (by kernel_rfl) (by kernel_rfl) (by kernel_rfl) (fun _ _ _ h => h) (Or.inl ⟨by rfl, ?_⟩) (by assumption) ?_
          rotate_left
          · intro w0 hSw
            (try dsimp only at hSw)
            go_simp
            try with_reducible rfl
          simp only [Act.put, List.getElem_toArray, List.getElem_cons_zero, List.getElem_cons_succ, List.setIfInBounds_toArray, List.set_cons_zero, List.set_cons_succ]
          refine wpAnyH_take (i := 21) (v := ?_) rfl (by kernel_rfl) (by kernel_rfl) (by kernel_rfl) (fun _ _ _ h => h) (Or.inl ⟨by rfl, ?_⟩) (by assumption) ?_
          rotate_left
          · intro w0 hSw
            (try dsimp only at hSw)
            go_simp
            try with_reducible rfl
          simp only [Act.put, List.getElem_toArray, List.getElem_cons_zero, List.getElem_cons_succ, List.setIfInBounds_toArray, List.set_cons_zero, List.set_cons_succ]
          refine wpAnyH_take (i := 22) (v := ?_) rfl (by kernel_rfl) (by kernel_rfl) (by kernel_rfl) (fun _ _ _ h => h) (Or.inl ⟨by rfl, ?_⟩) (by assumption) ?_
          rotate_left
          · intro w0 hSw
            (try dsimp only at hSw)
            go_simp
            try with_reducible rfl
          simp only [Act.put, List.getElem_toArray, List.getElem_cons_zero, List.getElem_cons_succ, List.setIfInBounds_toArray, List.set_cons_zero, List.set_cons_succ]
          refine wpAnyH_ready (rs := [23]) (by kernel_rfl) (by simp) ?_
          refine AllReadyH.cons rfl (fun K hK => ?_) AllReadyH.nil
          go_simp
          go_at_call 31
          refine (sameAcc_true m.ak m.aa m.an 0 0 _ _ _ _ _ _ m.ab _ ((RdB.drewN 1 RX8.out).below b9) ((RdB.drewN 1 RY8.out).below b9)).mono ?_
          rintro r w10 ⟨rfl, b10⟩
          have z10 := b10.size
          have hb10a := fun o => b10.cell (p := ⟨w6.heap.size, o, none⟩) (by simp; try omega)
          have hb10b := fun o => b10.cell (p := ⟨w7.heap.size, o, none⟩) (by simp; try omega)
          have hb10t := fun o => b10.cell (p := ⟨wr.heap.size, o, none⟩) (by simp; try omega)
          have V10 := conv_rd (w := w10) 22 9 Try.underlying22 Try.underlying9 (((RdB.drewN 1 RD8.out).below b9).below b10)
          go_wp2_with fail
          refine hK.out _ _ ?_ (fun hHeld => ?_)
          · try dsimp only
            go_keep
          clear hK K
          try simp only [Act.put, List.getElem_toArray, List.getElem_cons_zero, List.getElem_cons_succ, List.setIfInBounds_toArray, List.set_cons_zero, List.set_cons_succ]
          refine wpAnyH_take (i := 24) (v := ?_) rfl (by kernel_rfl) (by kernel_rfl) (by kernel_rfl) (fun _ _ _ h => h) (Or.inl ⟨by rfl, ?_⟩) (by assumption) ?_
          rotate_left
          · intro w0 hSw
            (try dsimp only at hSw)
            go_simp
            try with_reducible rfl
          simp only [Act.put, List.getElem_toArray, List.getElem_cons_zero, List.getElem_cons_succ, List.setIfInBounds_toArray, List.set_cons_zero, List.set_cons_succ]
          refine wpAnyH_take (i := 25) (v := ?_) rfl (by kernel_rfl) (by kernel_rfl) (by kernel_rfl) (fun _ _ _ h => h) (Or.inl ⟨by rfl, ?_⟩) (by assumption) ?_
          rotate_left
          · intro w0 hSw
            (try dsimp only at hSw)
            go_simp
            try with_reducible rfl
          simp only [Act.put, List.getElem_toArray, List.getElem_cons_zero, List.getElem_cons_succ, List.setIfInBounds_toArray, List.set_cons_zero, List.set_cons_succ]
          refine wpAnyH_take (i := 26) (v := ?_) rfl (by kernel_rfl) (by kernel_rfl) (by kernel_rfl) (fun _ _ _ h => h) (Or.inl ⟨by rfl, ?_⟩) (by assumption) ?_
          rotate_left
          · intro w0 hSw
            (try dsimp only at hSw)
            go_simp
            try with_reducible rfl
          simp only [Act.put, List.getElem_toArray, List.getElem_cons_zero, List.getElem_cons_succ, List.setIfInBounds_toArray, List.set_cons_zero, List.set_cons_succ]
          refine wpAnyH_take (i := 27) (v := ?_) rfl (by kernel_rfl) (by kernel_rfl) (by kernel_rfl) (fun _ _ _ h => h) (Or.inl ⟨by rfl, ?_⟩) (by assumption) ?_
          rotate_left
          · intro w0 hSw
            (try dsimp only at hSw)
            go_simp
            try with_reducible rfl
          simp only [Act.put, List.getElem_toArray, List.getElem_cons_zero, List.getElem_cons_succ, List.setIfInBounds_toArray, List.set_cons_zero, List.set_cons_succ]
          refine wpAnyH_take (i := 30) (v := ?_) rfl (by kernel_rfl) (by kernel_rfl) (by kernel_rfl) (fun _ _ _ h => h) (Or.inl ⟨by rfl, ?_⟩) (by assumption) ?_
          rotate_left
          · intro w0 hSw
            (try dsimp only at hSw)
            go_simp
            try with_reducible rfl
          simp only [Act.put, List.getElem_toArray, List.getElem_cons_zero, List.getElem_cons_succ, List.setIfInBounds_toArray, List.set_cons_zero, List.set_cons_succ]
          refine wpAnyH_take (i := 31) (v := ?_) rfl (by kernel_rfl) (by kernel_rfl) (by kernel_rfl) (fun _ _ _ h => h) (Or.inl ⟨by rfl, ?_⟩) (by assumption) ?_
          rotate_left
          · intro w0 hSw
            (try dsimp only at hSw)
            go_simp
            try with_reducible rfl
          simp only [Act.put, List.getElem_toArray, List.getElem_cons_zero, List.getElem_cons_succ, List.setIfInBounds_toArray, List.set_cons_zero, List.set_cons_succ]
          refine wpAnyH_ready (rs := [28]) (by kernel_rfl) (by simp) ?_
          refine AllReadyH.cons rfl (fun K hK => ?_) AllReadyH.nil
          go_simp
          go_at_call 28
          refine (cp_bytes F q m _ (((HC8.out.keep (M := fun _ => False) ((Keep.refl _ _).drew) (fun _ _ => id)).below b9).below b10) (by have := HBD.out; omega)).mono ?_
          rintro r w11 ⟨g0, gl, gc, rfl, o11, b11⟩
          have z11 := b11.size
          have hb11a := fun o => b11.cell (p := ⟨w6.heap.size, o, none⟩) (by simp; try omega)
          have hb11b := fun o => b11.cell (p := ⟨w7.heap.size, o, none⟩) (by simp; try omega)
          have hb11t := fun o => b11.cell (p := ⟨wr.heap.size, o, none⟩) (by simp; try omega)
          have V11 := conv_rd (w := w11) 22 9 Try.underlying22 Try.underlying9 ((((RdB.drewN 1 RD8.out).below b9).below b10).below b11)
          have X11 := conv_rd (w := w11) 22 9 Try.underlying22 Try.underlying9 (o11.rd)
          go_wp2_with fail
          refine hK.out _ _ ?_ (fun hHeld => ?_)
          · try dsimp only
            go_keep
          clear hK K
          try simp only [Act.put, List.getElem_toArray, List.getElem_cons_zero, List.getElem_cons_succ, List.setIfInBounds_toArray, List.set_cons_zero, List.set_cons_succ]
          refine wpAnyH_ready (rs := [29]) (by kernel_rfl) (by simp) ?_
          refine AllReadyH.cons rfl (fun K hK => ?_) AllReadyH.nil
          go_simp
          refine hK.out _ _ ?_ (fun hHeld => ?_)
          · try dsimp only
            go_keep
          clear hK K
          try simp only [Act.put, List.getElem_toArray, List.getElem_cons_zero, List.getElem_cons_succ, List.setIfInBounds_toArray, List.set_cons_zero, List.set_cons_succ]
          refine wpAnyH_take (i := 32) (v := ?_) rfl (by kernel_rfl) (by kernel_rfl) (by kernel_rfl) (fun _ _ _ h => h) (Or.inl ⟨by rfl, ?_⟩) (by assumption) ?_
          rotate_left
          · intro w0 hSw
            (try dsimp only at hSw)
            go_simp
            try with_reducible rfl
          simp only [Act.put, List.getElem_toArray, List.getElem_cons_zero, List.getElem_cons_succ, List.setIfInBounds_toArray, List.set_cons_zero, List.set_cons_succ]
          refine wpAnyH_take (i := 33) (v := ?_) rfl (by kernel_rfl) (by kernel_rfl) (by kernel_rfl) (fun _ _ _ h => h) (Or.inl ⟨by rfl, ?_⟩) (by assumption) ?_
          rotate_left
          · intro w0 hSw
            (try dsimp only at hSw)
            go_simp
            try with_reducible rfl
          simp only [Act.put, List.getElem_toArray, List.getElem_cons_zero, List.getElem_cons_succ, List.setIfInBounds_toArray, List.set_cons_zero, List.set_cons_succ]
          refine wpAnyH_done (by kernel_rfl) ?_ _
          have hb811 : Below w8.heap.size w8 w11 := ((bel_drewN 1 (Below.refl w8.heap.size w8)).trans (b9.mono (by simp))).trans ((b10.mono (by omega)).trans (b11.mono (by omega)))
          have B11 := Lib.hid (B8.out.trans (hb811.mono (by omega)))
          have HC11 := Lib.hid (HC8.out.below hb811)
          have z811 := hb811.size
          clear hHeld o11 V9 V10 V11 X11 hb9a hb9b hb9t hb10a hb10b hb10t hb11a hb11b hb11t hb811 b9 b10 b11 ca0 ca1 ca2 ca3 ca4 ca5 cb0 cb1 cb2 cb3 cb4 cb5 ct2 ct3 ct4 ct5 ct6 ct7 ct8 CV HA8 HB8 HT8 RD8 RW8 RX8 RY8 HC8 B8
          by_cases hjl : j < T.length
          · obtain ⟨b, off, rfl, hcell⟩ : ∃ b off, t0 = some ⟨b, off, none⟩ ∧ ∀ i, i < T.length → w11.cell? ⟨b, off + i * 3, none⟩ = some (.int .u64 (gA T i).v) ∧ w11.cell? ⟨b, off + i * 3 + 1, none⟩ = some (.bool (gA T i).d) ∧ w11.cell? ⟨b, off + i * 3 + 2, none⟩ = some (gA T i).s := by
              rcases HT.out.below B11.out with ⟨_, e⟩ | ⟨_, _, _, e, _⟩ | ⟨b, off, cap, e1, e2, e3, e4⟩
              · rw [e] at hjl; cases hjl
              · rw [e] at hjl; cases hjl
              · cases e1
                exact ⟨b, off, rfl, e4⟩
            obtain ⟨y0, y1, y2⟩ := hcell j hjl
            obtain ⟨sa, sn, scc, hsv⟩ := HS.out j hjl
            have hrd := HTS.out j hjl
            rw [hsv] at y2 hrd
            have hsn := rd_len hrd
            have HSN := Lib.hid hsn
            have RJ := Lib.hid (hrd.below B11.out)
            have hjli : (j : Int) < (T.length : Int) := by omega
            clear hcell hsv hrd hsn
            by_cases hbig : (100 : Int) < (sn : Int)
            · go_wp2
              go_ret
              exact ⟨rfl, B11.out⟩
            · go_wp2_with fail
              refine (cp_take F q m (gA T j).b _ _ sa sn scc _ HC11.out RJ.out (by have := HBD.out; have := HSN.out; omega) (by have := HBD.out; omega) (by have := HBD.out; omega) (by have := HBD.out; omega) (by have := HBD.out; omega)).mono ?_
              rintro e w12 ⟨rfl, F', hcp', hF', k12⟩
              have z12 := k12.size
              have HC12 := Lib.hid hcp'
              have HF' := Lib.hid hF'
              have B12 := Lib.hid (B11.out.trans (k12.below (by omega) (fun k h1 h2 => by have := HF.out k h2; omega)))
              clear hcp' hF' k12
              go_wp2
              refine ⟨⟨j + 1, F', by omega, by go_num, fun x h1 h2 => ?_, ?_, fun i hi => ?_, B12.out⟩, by simp [intOf]; omega⟩
              · by_cases e : x = j
                · subst e
                  have := HSN.out
                  omega
                · exact HJB.out x (by omega) h2
              · rw [take_snocA T j hjl, CpM.run_snoc, ← HM.out]
                exact HC12.out
              · rcases HF'.out i hi with h | h
                · exact HF.out i h
                · omega
          · have hjli : ¬ (j : Int) < (T.length : Int) := by omega
            go_wp2
            refine ⟨⟨j + 1, F, by omega, by go_num, fun x h1 h2 => HJB.out x (by omega) h2, ?_, fun i hi => HF.out i hi, B11.out⟩, by simp [intOf]; omega⟩
            rw [List.take_of_length_le (by omega), ← List.take_of_length_le (show T.length ≤ j by omega), ← HM.out]
            exact HC11.out
        · have e1 : (j : Int) = (T.length : Int) + 1 := by omega
          have BX := Lib.hid hbel
          clear hbel hcp hF hjb
          go_wp2
          go_ret
          exact ⟨rfl, BX.out⟩
theorem u8_bdm {a : Int} (h : (Lit.int .u8 a).wf = true) : 0 ≤ a ∧ a ≤ 255 := by
  simpa [Lit.wf, IntKind.min, IntKind.max, IntKind.signed, IntKind.bits] using h
theorem i64_bdm {a : Int} (h : (Lit.int .i64 a).wf = true) : -9223372036854775808 ≤ a ∧ a ≤ 9223372036854775807 := by
  simpa [Lit.wf, IntKind.min, IntKind.max, IntKind.signed, IntKind.bits] using h
theorem rd_sliceM {w : World} {v : Value} {l : List Int} (h : RdB w v l) : ∃ a n c, v = .slice a n c := by
  rcases h with ⟨rfl, rfl⟩ | ⟨a, cap, rfl, rfl, hm⟩ | ⟨b, off, cap, rfl, hc, hm, hcell⟩
  · exact ⟨_, _, _, rfl⟩
  · exact ⟨_, _, _, rfl⟩
  · exact ⟨_, _, _, rfl⟩
theorem steps_said (kind : Int) (wk : (Lit.int .u8 kind).wf = true) (a : Int) (wa : (Lit.int .i64 a).wf = true) (n : Int) (wn : (Lit.int .i64 n).wf = true) (v : Value) (l : List Int) (t0 : Option Addr) (tn tc : Nat) (T : List AnsV) (w : World) (h : RdB w v l) (hl : IsB l) (hT : RdA w (.slice t0 tn tc) T) (hA : AnsIs w T) :
    Calls Try.prog 7 #[.int .u8 kind, .int .i64 a, .int .i64 n, v, .slice t0 tn tc] w fun r w' => r = .returned (.bool true) ∧ Below w.heap.size w w' := by
  obtain ⟨s0, sl, sc, rfl⟩ := rd_sliceM h
  have bk := u8_bdm wk
  have bn := i64_bdm wn
  by_cases he : (600 : Int) < (sl : Int) ∨ (90 : Int) < (tn : Int) ∨ (600 < n ∧ n ≤ 131072) ∨ 1099511627776 < a ∨ a < -1099511627776
  · exact steps_early kind a n s0 t0 sl sc tn tc w he
  · by_cases hn : 600 < n
    · exact steps_hi kind a n s0 t0 sl sc tn tc l T w h hl hT (fun i hi => (hA i hi).1) (fun i hi => (hA i hi).2.1) bk bn.1 (by omega) (by omega) hn (by omega) (by omega) (by omega)
    · exact steps_lo kind a n s0 t0 sl sc tn tc l T w h hl hT (fun i hi => (hA i hi).1) (fun i hi => (hA i hi).2.1) bk bn.1 (by omega) (by omega) hn (by omega) (by omega)
end Go.Proofs.Ytkbjbpaeoopkfaa
