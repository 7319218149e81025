/- The walk of the law MembufOwn. Conditions: the numbers are in their kinds' ranges. -/
import Derived.Test.YtkbjbpaeoopkfaaBm
import Derived.Test.YtkbjbpaeoopkfaaBi
import Derived.Deep.QuietTactic
import Derived.BigQuiet
namespace Go.Proofs.Ytkbjbpaeoopkfaa
set_option maxRecDepth 100000
open Go.RowKit
set_option linter.unusedVariables false
set_option linter.unusedSimpArgs false
theorem acE_w1 (i : Nat) (h : i < 64) : acE 64 6 i ((1 : Nat) : Int) ((1 : Nat) : Int) = 0 := by
  unfold acE
  rw [if_neg (by decide), if_neg (by omega), if_neg (by omega)]
theorem rd_one {w : World} {b : Nat} {x : Int} (h : Blk w b [.int .u8 x]) : RdB w (.slice (some ⟨b, 0, none⟩) 1 1) [x] := by
  refine RdB.cells (by simp) (by simp) (by unfold maxLen; omega) fun i hi => ?_
  obtain rfl : i = 0 := by omega
  exact h.cell 0
theorem gB_cells {w : World} {b cap : Nat} {l : List Int} {n : Nat} (h : ∀ i, i < l.length → w.cell? ⟨b, i, none⟩ = some (.int .u8 (gB l i))) (i : Nat) (hi : i < l.length) : w.cell? ⟨b, i, none⟩ = some (.int .u8 (gB l i)) := h i hi
set_option maxHeartbeats 4000000 in
theorem own_ok_empty (f0' : Option Addr) (fl fc : Nat) (lf : List Int) (k  x y : Int) (s0 : Option Addr) (sl sc : Nat) (l : List Int) (A N : Nat) (w : World) (hx : 0 ≤ x ∧ x ≤ 18446744073709551615) (hy : 0 ≤ y ∧ y ≤ 18446744073709551615) (hfirst : RdB w (.slice f0' fl fc) lf) (hbf : IsB lf) (hfl : fl ≤ 64) (hr : RdB w (.slice s0 sl sc) l) (hbl : IsB l) (hsl : sl ≤ 100) (hev' : acE 64 k A N sl = 0) (h0 : lf.length = 0) :
    Calls Try.prog 10 #[.slice f0' fl fc, .agg #[.int .i64 k, .int .i64 (A : Int), .int .i64 (N : Int), .int .u64 x, .int .u64 y, .slice s0 sl sc]] w fun e w' => e = .returned (.bool true) ∧ Below w.heap.size w w' := by
  have HE := Lib.hid hev'
  have HF := Lib.hid hfirst
  have HR := Lib.hid hr
  have hfn := rd_len hfirst
  have hs1 : ¬ (64 : Int) < (fl : Int) := by omega
  have hs2 : ¬ (100 : Int) < (sl : Int) := by omega
  clear hev' hr
  have hfl0 : fl = 0 := by omega
  subst hfl0
  clear hfirst hfn
  go_enter Try.func10, Try.ntmps10
  go_wp2_with fail
  refine (mFixed _).mono ?_
  rintro r w1 ⟨rfl, b1⟩
  obtain ⟨f0, f1, f2, f3, f4, f5⟩ := cells6b b1
  have z1 : w.heap.size + 1 ≤ w1.heap.size := by
    have := b1.size
    simpa using this
  have B1 : Below w.heap.size w w1 := ((Below.refl w.heap.size w).alloc (Nat.le_refl _) _).trans (b1.mono (by simp))
  have y1 : w.heap.size < w1.heap.size := by omega
  clear b1
  go_wp2_with fail
  refine (mNew_lit 64 8 _ (by decide) (by decide) (by decide)).mono ?_
  rintro r w2 ⟨p, c, rfl, hb2, hp, hc, b2⟩
  have B2 := B1.trans (b2.mono (by omega))
  have z2 := b2.size
  have pl := hb2.hd.lt
  have cl := hb2.wd.lt
  have HB2 := Lib.hid hb2
  have HR2 := Lib.hid (HR.out.below B2)
  have HF2 := Lib.hid (HF.out.below B2)
  have g2 := fun o => b2.cell (p := ⟨w.heap.size, o, none⟩) y1
  rw [← g2] at f0 f1 f2 f3 f4 f5
  have y2 : w.heap.size < w2.heap.size := by omega
  clear g2 b2 hb2
  go_wp2_with fail
  refine wp_loop_rounds 1 ?_
  rw [rounds_succ]
  obtain ⟨wr, hwr⟩ : ∃ wr, wr = w2 := ⟨_, rfl⟩
  obtain ⟨cnt, hcnt⟩ : ∃ cnt : Int, cnt = 0 := ⟨_, rfl⟩
  obtain ⟨bs, hbs⟩ : ∃ bs, bs = List.replicate (8 * 8) (0 : Int) := ⟨_, rfl⟩
  have hbuf : Buf wr p c cnt bs := by rw [hwr, hcnt, hbs]; exact HB2.out
  have hLn : bs.length = 64 := by rw [hbs]; simp
  have hcn0 : 0 ≤ cnt := by omega
  have hcn1 : cnt ≤ 64 := by omega
  have hkp : Keep (fun k => k = p ∨ k = c) w2 wr := by rw [hwr]; exact Keep.refl _ _
  rw [← hwr]
  have HWR := Lib.hid hwr
  clear hcnt hbs hwr
  have zr := hkp.size
  have HBr := Lib.hid hbuf
  have pr := hbuf.hd.lt
  have cr := hbuf.wd.lt
  have hb0 := fun o => hkp.cell (b := w.heap.size) o (by omega) (by omega)
  have HRr := Lib.hid (RdB.keepB HR2.out HB2.out hkp)
  rw [← hb0] at f0 f1 f2 f3 f4 f5
  have yr : w.heap.size < wr.heap.size := by omega
  clear hb0 hbuf
  go_wp2_with fail
  refine (mBytes_any p c cnt bs _ HBr.out).mono ?_
  rintro r w5 ⟨v5, rfl, o5, b5⟩
  obtain ⟨g5, cap5, rfl, hg5, hl5, hc5, hm5, hcell5⟩ := o5.slice (by omega)
  rw [hLn] at hc5
  have z5 := b5.size
  have HB5 := Lib.hid (HBr.out.belows b5)
  have HR5 := Lib.hid (HRr.out.below b5)
  have hb5 := fun o => b5.cell (p := ⟨w.heap.size, o, none⟩) yr
  rw [← hb5] at f0 f1 f2 f3 f4 f5
  have y5 : w.heap.size < w5.heap.size := by omega
  have K5 := hkp.trans (Below.keeps b5)
  have HC5 := Lib.hid hcell5
  clear hb5 b5 o5 hcell5
  rw [hLn]
  go_wp2_with fail
  have HE0 := Lib.hid (show acE bs.length (k) (A : Int) (N : Int) sl = 0 from by rw [hLn]; exact HE.out)
  refine (mDo_ok p c cnt bs k A N x y s0 sl sc l _ HB5.out hcn0 (by omega) hx.1 hx.2 hy.1 hy.2 HR5.out hbl HE0.out).mono ?_
  rintro r w6 ⟨s6, rfl, o6, hb6, k6⟩
  obtain ⟨x6, n6, c6, rfl⟩ := o6.isSliceB
  have HE1 : acE bs.length k (A : Int) (N : Int) l.length = 0 := by
    have := HE0.out
    rwa [rd_len HR5.out] at this
  have hlen6 := doB_len (v := x) (x := y) (l := l) HE1
  have HOWN := Lib.hid (fun i hi => doB_own (v := x) (x := y) (l := l) HE1 i hi)
  obtain ⟨bs6, hbs6⟩ : ∃ bs6, bs6 = doB bs k A N x y l := ⟨_, rfl⟩
  obtain ⟨dv, hdv⟩ : ∃ dv, dv = doV bs k A N := ⟨_, rfl⟩
  obtain ⟨dd, hdd⟩ : ∃ dd, dd = doD bs k A N x := ⟨_, rfl⟩
  rw [← hbs6] at hb6 hlen6 HOWN
  rw [← hdv, ← hdd]
  rw [hLn] at hlen6
  have HB6 := Lib.hid hb6
  have z6 := k6.size
  have hb6 := fun o => k6.cell (b := w.heap.size) o (by omega) (by omega)
  rw [← hb6] at f0 f1 f2 f3 f4 f5
  have n5 : ¬ (g5 = p ∨ g5 = c) := by omega
  have HC6 : Hid (∀ i, i < bs.length → w6.cell? ⟨g5, i, none⟩ = some (.int .u8 (gB bs i))) := fun i hi => by
    rw [k6.cell _ hl5 n5]
    exact HC5.out i hi
  have K6 := K5.trans k6
  have y6 : w.heap.size < w6.heap.size := by omega
  clear hb6 k6 o6 hbs6 hdv hdd
  unfold anV
  go_wp2_with fail
  refine (mBytes_any p c _ bs6 _ (HB6.out.alloc _)).mono ?_
  rintro r w7 ⟨v7, rfl, o7, b7⟩
  obtain ⟨g7, cap7, rfl, hg7, hl7, hc7, hm7, hcell7⟩ := o7.slice (by omega)
  rw [hlen6] at hc7
  have z7 := b7.size
  simp at z7
  have hb7 := fun o => b7.cell (p := ⟨w.heap.size, o, none⟩) (by simp; omega)
  have f1' : w7.cell? ⟨w.heap.size, 1, none⟩ = some (.int .i64 (A : Int)) := (hb7 1).trans (by go_simp)
  have f2' : w7.cell? ⟨w.heap.size, 2, none⟩ = some (.int .i64 (N : Int)) := (hb7 2).trans (by go_simp)
  have HC7 : Hid (∀ i, i < bs.length → w7.cell? ⟨g5, i, none⟩ = some (.int .u8 (gB bs i))) := fun i hi => by
    rw [b7.cell (p := ⟨g5, i, none⟩) (by simp; omega), World.cell?_alloc_lt _ _ _ (by show g5 < w6.heap.size; omega)]
    exact HC6.out i hi
  have HD7 := Lib.hid hcell7
  have K7 := (K6.alloc _).trans (Below.keeps b7)
  have B7 : Below w.heap.size w w7 := B2.trans (K7.below (by omega) (by intro k h; omega))
  clear f0 f1 f2 f3 f4 f5 hb7 b7 o7 hcell7 HC5 HC6 K5 K6 K7
  rw [hlen6]
  go_wp2_with fail
  go_loopw [13, 55] (fun j i wr => ∃ q : Nat, q ≤ 64 ∧ i = .int .i64 q ∧ ∃ d, wr = w7.drewN d) (fun _ i _ => 64 - (intOf i).toNat)
  case atStart => exact ⟨0, by omega, rfl, 0, rfl⟩
  case round =>
    obtain ⟨q, hq, rfl, d, rfl⟩ := hrel
    by_cases hlt : q < 64
    · have e5 := HC7.out q (by omega)
      have e7 := HD7.out q (by omega)
      rcases hne : (gB bs6 q != gB bs q) with _ | _
      · go_wp2_with fail
        go_quiet (fail)
        go_wp2
        exact ⟨⟨q + 1, by omega, by go_num, d + nq, rfl⟩, by simp [intOf]; omega⟩
      · have hown := HOWN.out q
        have hin : A ≤ q ∧ q < A + N := by
          apply Classical.byContradiction
          intro hc
          have := hown hc
          simp [this] at hne
        have d1 : decide ((q : Int) < (A : Int)) = false := by simp; omega
        have d2 : decide ((A : Int) + (N : Int) ≤ (q : Int)) = false := by simp; omega
        have hAN : A + N ≤ 64 := by
          obtain ⟨_, h1, h2, h3, _⟩ := acE_ok HE.out (by omega)
          omega
        have W : IntKind.i64.wrap ((A : Int) + (N : Int)) = (A : Int) + (N : Int) := IntWalk.i64_in _ ⟨by omega, by omega⟩
        clear hown
        go_wp2_with fail
        go_quiet (fail)
        go_wp2
        exact ⟨⟨q + 1, by omega, by go_num, d + nq, rfl⟩, by simp [intOf]; omega⟩
    · go_wp2
      go_ret
      exact ⟨rfl, bel_drewN d B7⟩
set_option maxHeartbeats 4000000 in
theorem own_ok_row (f0' : Option Addr) (fl fc : Nat) (lf : List Int) (k  x y : Int) (s0 : Option Addr) (sl sc : Nat) (l : List Int) (A N : Nat) (w : World) (hx : 0 ≤ x ∧ x ≤ 18446744073709551615) (hy : 0 ≤ y ∧ y ≤ 18446744073709551615) (hfirst : RdB w (.slice f0' fl fc) lf) (hbf : IsB lf) (hfl : fl ≤ 64) (hr : RdB w (.slice s0 sl sc) l) (hbl : IsB l) (hsl : sl ≤ 100) (hev' : acE 64 k A N sl = 0) (h0 : lf.length ≠ 0) :
    Calls Try.prog 10 #[.slice f0' fl fc, .agg #[.int .i64 k, .int .i64 (A : Int), .int .i64 (N : Int), .int .u64 x, .int .u64 y, .slice s0 sl sc]] w fun e w' => e = .returned (.bool true) ∧ Below w.heap.size w w' := by
  have HE := Lib.hid hev'
  have HF := Lib.hid hfirst
  have HR := Lib.hid hr
  have hfn := rd_len hfirst
  have hs1 : ¬ (64 : Int) < (fl : Int) := by omega
  have hs2 : ¬ (100 : Int) < (sl : Int) := by omega
  clear hev' hr
  have hrow : ∃ b off, f0' = some ⟨b, off, none⟩ ∧ lf.length ≤ fc ∧ ∀ i, i < lf.length → w.cell? ⟨b, off + i, none⟩ = some (.int .u8 (gB lf i)) := by
    rcases hfirst with ⟨e, rfl⟩ | ⟨_, _, e, rfl, _⟩ | ⟨b, off, cap, e, h2, h3, h4⟩
    · simp at h0
    · simp at h0
    · cases e
      exact ⟨b, off, rfl, h2, h4⟩
  obtain ⟨b, off, rfl, hcap, hcell⟩ := hrow
  have HC := Lib.hid hcell
  subst hfn
  clear hfirst hcell
  go_enter Try.func10, Try.ntmps10
  go_wp2_with fail
  refine (mFixed _).mono ?_
  rintro r w1 ⟨rfl, b1⟩
  obtain ⟨f0, f1, f2, f3, f4, f5⟩ := cells6b b1
  have z1 : w.heap.size + 1 ≤ w1.heap.size := by
    have := b1.size
    simpa using this
  have B1 : Below w.heap.size w w1 := ((Below.refl w.heap.size w).alloc (Nat.le_refl _) _).trans (b1.mono (by simp))
  have y1 : w.heap.size < w1.heap.size := by omega
  clear b1
  go_wp2_with fail
  refine (mNew_lit 64 8 _ (by decide) (by decide) (by decide)).mono ?_
  rintro r w2 ⟨p, c, rfl, hb2, hp, hc, b2⟩
  have B2 := B1.trans (b2.mono (by omega))
  have z2 := b2.size
  have pl := hb2.hd.lt
  have cl := hb2.wd.lt
  have HB2 := Lib.hid hb2
  have HR2 := Lib.hid (HR.out.below B2)
  have HF2 := Lib.hid (HF.out.below B2)
  have g2 := fun o => b2.cell (p := ⟨w.heap.size, o, none⟩) y1
  rw [← g2] at f0 f1 f2 f3 f4 f5
  have y2 : w.heap.size < w2.heap.size := by omega
  clear g2 b2 hb2
  go_wp2_with fail
  go_loopw [7, 8, 31] (fun i0 c0 i wr => ∃ q : Nat, q ≤ lf.length ∧ i = .int .i64 q ∧ ∃ cnt bs, Buf wr p c cnt bs ∧ bs.length = 64 ∧ 0 ≤ cnt ∧ cnt ≤ q ∧ Keep (fun k => k = p ∨ k = c) w2 wr) (fun _ _ i _ => lf.length - (intOf i).toNat)
  case atStart => exact ⟨0, by omega, rfl, 0, _, HB2.out, by simp, by omega, by omega, Keep.refl _ _⟩
  case round =>
    obtain ⟨q, hq, rfl, cnt, bs, hbuf, hLn, hcn0, hcn1, hkp⟩ := hrel
    by_cases hlt : q < lf.length
    · have hby := HC.out q hlt
      have hb2' := B2.cell (p := ⟨b, off + q, none⟩) (World.block_lt_of_cell? w _ hby)
      rw [hby] at hb2'
      have hbr := hkp.cell (off + q) (World.block_lt_of_cell? w2 _ hb2') (HB2.out.noByte hb2')
      rw [hb2'] at hbr
      have HBr := Lib.hid hbuf
      have zk := hkp.size
      have pl' := hbuf.hd.lt
      have cl' := hbuf.wd.lt
      clear hby hb2' hbuf
      go_wp2_with fail
      refine (mDo_write p c cnt bs q 1 0 0 (some ⟨wr.heap.size, 0, none⟩) 1 1 _ (HBr.out.alloc _) hcn0 (by omega) (by rw [hLn]; exact acE_w1 q (by omega)) [gB lf q] (rd_one (Blk.made wr #[.int .u8 (gB lf q)] _)) (by intro z hz; simp at hz; subst hz; exact hbf.getD q)).mono ?_
      rintro r w4 ⟨rfl, h4b, k4⟩
      have hl4 := spl_len bs q [gB lf q] (by simp; omega)
      go_wp2
      exact ⟨⟨q + 1, by omega, by go_num, _, _, h4b, by omega, by omega, by omega, (hkp.alloc _).trans k4⟩, by simp [intOf]; omega⟩
    · have hcn1' : cnt ≤ 64 := by omega
      have zr := hkp.size
      have HBr := Lib.hid hbuf
      have pr := hbuf.hd.lt
      have cr := hbuf.wd.lt
      have hb0 := fun o => hkp.cell (b := w.heap.size) o (by omega) (by omega)
      have HRr := Lib.hid (RdB.keepB HR2.out HB2.out hkp)
      rw [← hb0] at f0 f1 f2 f3 f4 f5
      have yr : w.heap.size < wr.heap.size := by omega
      clear hb0 hbuf
      go_wp2_with fail
      refine (mBytes_any p c cnt bs _ HBr.out).mono ?_
      rintro r w5 ⟨v5, rfl, o5, b5⟩
      obtain ⟨g5, cap5, rfl, hg5, hl5, hc5, hm5, hcell5⟩ := o5.slice (by omega)
      rw [hLn] at hc5
      have z5 := b5.size
      have HB5 := Lib.hid (HBr.out.belows b5)
      have HR5 := Lib.hid (HRr.out.below b5)
      have hb5 := fun o => b5.cell (p := ⟨w.heap.size, o, none⟩) yr
      rw [← hb5] at f0 f1 f2 f3 f4 f5
      have y5 : w.heap.size < w5.heap.size := by omega
      have K5 := hkp.trans (Below.keeps b5)
      have HC5 := Lib.hid hcell5
      clear hb5 b5 o5 hcell5
      rw [hLn]
      go_wp2_with fail
      have HE0 := Lib.hid (show acE bs.length (k) (A : Int) (N : Int) sl = 0 from by rw [hLn]; exact HE.out)
      refine (mDo_ok p c cnt bs k A N x y s0 sl sc l _ HB5.out hcn0 (by omega) hx.1 hx.2 hy.1 hy.2 HR5.out hbl HE0.out).mono ?_
      rintro r w6 ⟨s6, rfl, o6, hb6, k6⟩
      obtain ⟨x6, n6, c6, rfl⟩ := o6.isSliceB
      have HE1 : acE bs.length k (A : Int) (N : Int) l.length = 0 := by
        have := HE0.out
        rwa [rd_len HR5.out] at this
      have hlen6 := doB_len (v := x) (x := y) (l := l) HE1
      have HOWN := Lib.hid (fun i hi => doB_own (v := x) (x := y) (l := l) HE1 i hi)
      obtain ⟨bs6, hbs6⟩ : ∃ bs6, bs6 = doB bs k A N x y l := ⟨_, rfl⟩
      obtain ⟨dv, hdv⟩ : ∃ dv, dv = doV bs k A N := ⟨_, rfl⟩
      obtain ⟨dd, hdd⟩ : ∃ dd, dd = doD bs k A N x := ⟨_, rfl⟩
      rw [← hbs6] at hb6 hlen6 HOWN
      rw [← hdv, ← hdd]
      rw [hLn] at hlen6
      have HB6 := Lib.hid hb6
      have z6 := k6.size
      have hb6 := fun o => k6.cell (b := w.heap.size) o (by omega) (by omega)
      rw [← hb6] at f0 f1 f2 f3 f4 f5
      have n5 : ¬ (g5 = p ∨ g5 = c) := by omega
      have HC6 : Hid (∀ i, i < bs.length → w6.cell? ⟨g5, i, none⟩ = some (.int .u8 (gB bs i))) := fun i hi => by
        rw [k6.cell _ hl5 n5]
        exact HC5.out i hi
      have K6 := K5.trans k6
      have y6 : w.heap.size < w6.heap.size := by omega
      clear hb6 k6 o6 hbs6 hdv hdd
      unfold anV
      go_wp2_with fail
      refine (mBytes_any p c _ bs6 _ (HB6.out.alloc _)).mono ?_
      rintro r w7 ⟨v7, rfl, o7, b7⟩
      obtain ⟨g7, cap7, rfl, hg7, hl7, hc7, hm7, hcell7⟩ := o7.slice (by omega)
      rw [hlen6] at hc7
      have z7 := b7.size
      simp at z7
      have hb7 := fun o => b7.cell (p := ⟨w.heap.size, o, none⟩) (by simp; omega)
      have f1' : w7.cell? ⟨w.heap.size, 1, none⟩ = some (.int .i64 (A : Int)) := (hb7 1).trans (by go_simp)
      have f2' : w7.cell? ⟨w.heap.size, 2, none⟩ = some (.int .i64 (N : Int)) := (hb7 2).trans (by go_simp)
      have HC7 : Hid (∀ i, i < bs.length → w7.cell? ⟨g5, i, none⟩ = some (.int .u8 (gB bs i))) := fun i hi => by
        rw [b7.cell (p := ⟨g5, i, none⟩) (by simp; omega), World.cell?_alloc_lt _ _ _ (by show g5 < w6.heap.size; omega)]
        exact HC6.out i hi
      have HD7 := Lib.hid hcell7
      have K7 := (K6.alloc _).trans (Below.keeps b7)
      have B7 : Below w.heap.size w w7 := B2.trans (K7.below (by omega) (by intro k h; omega))
      clear f0 f1 f2 f3 f4 f5 hb7 b7 o7 hcell7 HC5 HC6 K5 K6 K7
      rw [hlen6]
      go_wp2_with fail
      go_loopw [13, 55] (fun j i wr => ∃ q : Nat, q ≤ 64 ∧ i = .int .i64 q ∧ ∃ d, wr = w7.drewN d) (fun _ i _ => 64 - (intOf i).toNat)
      case atStart => exact ⟨0, by omega, rfl, 0, rfl⟩
      case round =>
        obtain ⟨q, hq, rfl, d, rfl⟩ := hrel
        by_cases hlt : q < 64
        · have e5 := HC7.out q (by omega)
          have e7 := HD7.out q (by omega)
          rcases hne : (gB bs6 q != gB bs q) with _ | _
          · go_wp2_with fail
            go_quiet (fail)
            go_wp2
            exact ⟨⟨q + 1, by omega, by go_num, d + nq, rfl⟩, by simp [intOf]; omega⟩
          · have hown := HOWN.out q
            have hin : A ≤ q ∧ q < A + N := by
              apply Classical.byContradiction
              intro hc
              have := hown hc
              simp [this] at hne
            have d1 : decide ((q : Int) < (A : Int)) = false := by simp; omega
            have d2 : decide ((A : Int) + (N : Int) ≤ (q : Int)) = false := by simp; omega
            have hAN : A + N ≤ 64 := by
              obtain ⟨_, h1, h2, h3, _⟩ := acE_ok HE.out (by omega)
              omega
            have W : IntKind.i64.wrap ((A : Int) + (N : Int)) = (A : Int) + (N : Int) := IntWalk.i64_in _ ⟨by omega, by omega⟩
            clear hown
            go_wp2_with fail
            go_quiet (fail)
            go_wp2
            exact ⟨⟨q + 1, by omega, by go_num, d + nq, rfl⟩, by simp [intOf]; omega⟩
        · go_wp2
          go_ret
          exact ⟨rfl, bel_drewN d B7⟩
set_option maxHeartbeats 4000000 in
theorem own_bad_empty (f0' : Option Addr) (fl fc : Nat) (lf : List Int) (k a n x y : Int) (s0 : Option Addr) (sl sc : Nat) (l : List Int) (w : World) (hx : 0 ≤ x ∧ x ≤ 18446744073709551615) (hy : 0 ≤ y ∧ y ≤ 18446744073709551615) (hfirst : RdB w (.slice f0' fl fc) lf) (hbf : IsB lf) (hfl : fl ≤ 64) (hr : RdB w (.slice s0 sl sc) l) (hbl : IsB l) (hsl : sl ≤ 100) (ev : Int) (hev : ev ≠ 0) (hev' : acE 64 k a n sl = ev) (h0 : lf.length = 0) :
    Calls Try.prog 10 #[.slice f0' fl fc, .agg #[.int .i64 k, .int .i64 a, .int .i64 n, .int .u64 x, .int .u64 y, .slice s0 sl sc]] w fun e w' => e = .returned (.bool true) ∧ Below w.heap.size w w' := by
  have HE := Lib.hid hev'
  have HF := Lib.hid hfirst
  have HR := Lib.hid hr
  have hfn := rd_len hfirst
  have hs1 : ¬ (64 : Int) < (fl : Int) := by omega
  have hs2 : ¬ (100 : Int) < (sl : Int) := by omega
  clear hev' hr
  have hfl0 : fl = 0 := by omega
  subst hfl0
  clear hfirst hfn
  go_enter Try.func10, Try.ntmps10
  go_wp2_with fail
  refine (mFixed _).mono ?_
  rintro r w1 ⟨rfl, b1⟩
  obtain ⟨f0, f1, f2, f3, f4, f5⟩ := cells6b b1
  have z1 : w.heap.size + 1 ≤ w1.heap.size := by
    have := b1.size
    simpa using this
  have B1 : Below w.heap.size w w1 := ((Below.refl w.heap.size w).alloc (Nat.le_refl _) _).trans (b1.mono (by simp))
  have y1 : w.heap.size < w1.heap.size := by omega
  clear b1
  go_wp2_with fail
  refine (mNew_lit 64 8 _ (by decide) (by decide) (by decide)).mono ?_
  rintro r w2 ⟨p, c, rfl, hb2, hp, hc, b2⟩
  have B2 := B1.trans (b2.mono (by omega))
  have z2 := b2.size
  have pl := hb2.hd.lt
  have cl := hb2.wd.lt
  have HB2 := Lib.hid hb2
  have HR2 := Lib.hid (HR.out.below B2)
  have HF2 := Lib.hid (HF.out.below B2)
  have g2 := fun o => b2.cell (p := ⟨w.heap.size, o, none⟩) y1
  rw [← g2] at f0 f1 f2 f3 f4 f5
  have y2 : w.heap.size < w2.heap.size := by omega
  clear g2 b2 hb2
  go_wp2_with fail
  refine wp_loop_rounds 1 ?_
  rw [rounds_succ]
  obtain ⟨wr, hwr⟩ : ∃ wr, wr = w2 := ⟨_, rfl⟩
  obtain ⟨cnt, hcnt⟩ : ∃ cnt : Int, cnt = 0 := ⟨_, rfl⟩
  obtain ⟨bs, hbs⟩ : ∃ bs, bs = List.replicate (8 * 8) (0 : Int) := ⟨_, rfl⟩
  have hbuf : Buf wr p c cnt bs := by rw [hwr, hcnt, hbs]; exact HB2.out
  have hLn : bs.length = 64 := by rw [hbs]; simp
  have hcn0 : 0 ≤ cnt := by omega
  have hcn1 : cnt ≤ 64 := by omega
  have hkp : Keep (fun k => k = p ∨ k = c) w2 wr := by rw [hwr]; exact Keep.refl _ _
  rw [← hwr]
  have HWR := Lib.hid hwr
  clear hcnt hbs hwr
  have zr := hkp.size
  have HBr := Lib.hid hbuf
  have pr := hbuf.hd.lt
  have cr := hbuf.wd.lt
  have hb0 := fun o => hkp.cell (b := w.heap.size) o (by omega) (by omega)
  have HRr := Lib.hid (RdB.keepB HR2.out HB2.out hkp)
  rw [← hb0] at f0 f1 f2 f3 f4 f5
  have yr : w.heap.size < wr.heap.size := by omega
  clear hb0 hbuf
  go_wp2_with fail
  refine (mBytes_any p c cnt bs _ HBr.out).mono ?_
  rintro r w5 ⟨v5, rfl, o5, b5⟩
  obtain ⟨g5, cap5, rfl, hg5, hl5, hc5, hm5, hcell5⟩ := o5.slice (by omega)
  rw [hLn] at hc5
  have z5 := b5.size
  have HB5 := Lib.hid (HBr.out.belows b5)
  have HR5 := Lib.hid (HRr.out.below b5)
  have hb5 := fun o => b5.cell (p := ⟨w.heap.size, o, none⟩) yr
  rw [← hb5] at f0 f1 f2 f3 f4 f5
  have y5 : w.heap.size < w5.heap.size := by omega
  have K5 := hkp.trans (Below.keeps b5)
  have HC5 := Lib.hid hcell5
  clear hb5 b5 o5 hcell5
  rw [hLn]
  go_wp2_with fail
  have HE0 := Lib.hid (show acE bs.length k a n sl = ev from by rw [hLn]; exact HE.out)
  refine (mDo_bad p c cnt bs k a n x y s0 sl sc _ HB5.out (by rw [HE0.out]; exact hev)).mono ?_
  rintro r w6 ⟨rfl, b6⟩
  rw [HE0.out]
  obtain ⟨bs6, hbs6⟩ : ∃ bs6, bs6 = bs := ⟨_, rfl⟩
  have hlen6 : bs6.length = 64 := by rw [hbs6]; exact hLn
  have HOWN : Hid (∀ i, gB bs6 i = gB bs i) := fun i => by rw [hbs6]
  have HB6 := Lib.hid (show Buf w6 p c cnt bs6 by rw [hbs6]; exact HB5.out.belows b6)
  have z6 := b6.size
  have hb6 := fun o => b6.cell (p := ⟨w.heap.size, o, none⟩) y5
  rw [← hb6] at f0 f1 f2 f3 f4 f5
  have HC6 : Hid (∀ i, i < bs.length → w6.cell? ⟨g5, i, none⟩ = some (.int .u8 (gB bs i))) := fun i hi => by
    rw [b6.cell (p := ⟨g5, i, none⟩) hl5]
    exact HC5.out i hi
  have K6 := K5.trans (Below.keeps b6)
  have y6 : w.heap.size < w6.heap.size := by omega
  clear hb6 b6 hbs6
  unfold anV
  go_wp2_with fail
  refine (mBytes_any p c _ bs6 _ (HB6.out.alloc _)).mono ?_
  rintro r w7 ⟨v7, rfl, o7, b7⟩
  obtain ⟨g7, cap7, rfl, hg7, hl7, hc7, hm7, hcell7⟩ := o7.slice (by omega)
  rw [hlen6] at hc7
  have z7 := b7.size
  simp at z7
  have hb7 := fun o => b7.cell (p := ⟨w.heap.size, o, none⟩) (by simp; omega)
  have f1' : w7.cell? ⟨w.heap.size, 1, none⟩ = some (.int .i64 a) := (hb7 1).trans (by go_simp)
  have f2' : w7.cell? ⟨w.heap.size, 2, none⟩ = some (.int .i64 n) := (hb7 2).trans (by go_simp)
  have HC7 : Hid (∀ i, i < bs.length → w7.cell? ⟨g5, i, none⟩ = some (.int .u8 (gB bs i))) := fun i hi => by
    rw [b7.cell (p := ⟨g5, i, none⟩) (by simp; omega), World.cell?_alloc_lt _ _ _ (by show g5 < w6.heap.size; omega)]
    exact HC6.out i hi
  have HD7 := Lib.hid hcell7
  have K7 := (K6.alloc _).trans (Below.keeps b7)
  have B7 : Below w.heap.size w w7 := B2.trans (K7.below (by omega) (by intro k h; omega))
  clear f0 f1 f2 f3 f4 f5 hb7 b7 o7 hcell7 HC5 HC6 K5 K6 K7
  rw [hlen6]
  go_wp2_with fail
  go_loopw [13, 55] (fun j i wr => ∃ q : Nat, q ≤ 64 ∧ i = .int .i64 q ∧ ∃ d, wr = w7.drewN d) (fun _ i _ => 64 - (intOf i).toNat)
  case atStart => exact ⟨0, by omega, rfl, 0, rfl⟩
  case round =>
    obtain ⟨q, hq, rfl, d, rfl⟩ := hrel
    by_cases hlt : q < 64
    · have e5 := HC7.out q (by omega)
      have e7 := HD7.out q (by omega)
      rcases hne : (gB bs6 q != gB bs q) with _ | _
      · go_wp2_with fail
        go_quiet (fail)
        go_wp2
        exact ⟨⟨q + 1, by omega, by go_num, d + nq, rfl⟩, by simp [intOf]; omega⟩
      · have hown := HOWN.out q
        simp [hown] at hne
    · go_wp2
      go_ret
      exact ⟨rfl, bel_drewN d B7⟩
set_option maxHeartbeats 4000000 in
theorem own_bad_row (f0' : Option Addr) (fl fc : Nat) (lf : List Int) (k a n x y : Int) (s0 : Option Addr) (sl sc : Nat) (l : List Int) (w : World) (hx : 0 ≤ x ∧ x ≤ 18446744073709551615) (hy : 0 ≤ y ∧ y ≤ 18446744073709551615) (hfirst : RdB w (.slice f0' fl fc) lf) (hbf : IsB lf) (hfl : fl ≤ 64) (hr : RdB w (.slice s0 sl sc) l) (hbl : IsB l) (hsl : sl ≤ 100) (ev : Int) (hev : ev ≠ 0) (hev' : acE 64 k a n sl = ev) (h0 : lf.length ≠ 0) :
    Calls Try.prog 10 #[.slice f0' fl fc, .agg #[.int .i64 k, .int .i64 a, .int .i64 n, .int .u64 x, .int .u64 y, .slice s0 sl sc]] w fun e w' => e = .returned (.bool true) ∧ Below w.heap.size w w' := by
  have HE := Lib.hid hev'
  have HF := Lib.hid hfirst
  have HR := Lib.hid hr
  have hfn := rd_len hfirst
  have hs1 : ¬ (64 : Int) < (fl : Int) := by omega
  have hs2 : ¬ (100 : Int) < (sl : Int) := by omega
  clear hev' hr
  have hrow : ∃ b off, f0' = some ⟨b, off, none⟩ ∧ lf.length ≤ fc ∧ ∀ i, i < lf.length → w.cell? ⟨b, off + i, none⟩ = some (.int .u8 (gB lf i)) := by
    rcases hfirst with ⟨e, rfl⟩ | ⟨_, _, e, rfl, _⟩ | ⟨b, off, cap, e, h2, h3, h4⟩
    · simp at h0
    · simp at h0
    · cases e
      exact ⟨b, off, rfl, h2, h4⟩
  obtain ⟨b, off, rfl, hcap, hcell⟩ := hrow
  have HC := Lib.hid hcell
  subst hfn
  clear hfirst hcell
  go_enter Try.func10, Try.ntmps10
  go_wp2_with fail
  refine (mFixed _).mono ?_
  rintro r w1 ⟨rfl, b1⟩
  obtain ⟨f0, f1, f2, f3, f4, f5⟩ := cells6b b1
  have z1 : w.heap.size + 1 ≤ w1.heap.size := by
    have := b1.size
    simpa using this
  have B1 : Below w.heap.size w w1 := ((Below.refl w.heap.size w).alloc (Nat.le_refl _) _).trans (b1.mono (by simp))
  have y1 : w.heap.size < w1.heap.size := by omega
  clear b1
  go_wp2_with fail
  refine (mNew_lit 64 8 _ (by decide) (by decide) (by decide)).mono ?_
  rintro r w2 ⟨p, c, rfl, hb2, hp, hc, b2⟩
  have B2 := B1.trans (b2.mono (by omega))
  have z2 := b2.size
  have pl := hb2.hd.lt
  have cl := hb2.wd.lt
  have HB2 := Lib.hid hb2
  have HR2 := Lib.hid (HR.out.below B2)
  have HF2 := Lib.hid (HF.out.below B2)
  have g2 := fun o => b2.cell (p := ⟨w.heap.size, o, none⟩) y1
  rw [← g2] at f0 f1 f2 f3 f4 f5
  have y2 : w.heap.size < w2.heap.size := by omega
  clear g2 b2 hb2
  go_wp2_with fail
  go_loopw [7, 8, 31] (fun i0 c0 i wr => ∃ q : Nat, q ≤ lf.length ∧ i = .int .i64 q ∧ ∃ cnt bs, Buf wr p c cnt bs ∧ bs.length = 64 ∧ 0 ≤ cnt ∧ cnt ≤ q ∧ Keep (fun k => k = p ∨ k = c) w2 wr) (fun _ _ i _ => lf.length - (intOf i).toNat)
  case atStart => exact ⟨0, by omega, rfl, 0, _, HB2.out, by simp, by omega, by omega, Keep.refl _ _⟩
  case round =>
    obtain ⟨q, hq, rfl, cnt, bs, hbuf, hLn, hcn0, hcn1, hkp⟩ := hrel
    by_cases hlt : q < lf.length
    · have hby := HC.out q hlt
      have hb2' := B2.cell (p := ⟨b, off + q, none⟩) (World.block_lt_of_cell? w _ hby)
      rw [hby] at hb2'
      have hbr := hkp.cell (off + q) (World.block_lt_of_cell? w2 _ hb2') (HB2.out.noByte hb2')
      rw [hb2'] at hbr
      have HBr := Lib.hid hbuf
      have zk := hkp.size
      have pl' := hbuf.hd.lt
      have cl' := hbuf.wd.lt
      clear hby hb2' hbuf
      go_wp2_with fail
      refine (mDo_write p c cnt bs q 1 0 0 (some ⟨wr.heap.size, 0, none⟩) 1 1 _ (HBr.out.alloc _) hcn0 (by omega) (by rw [hLn]; exact acE_w1 q (by omega)) [gB lf q] (rd_one (Blk.made wr #[.int .u8 (gB lf q)] _)) (by intro z hz; simp at hz; subst hz; exact hbf.getD q)).mono ?_
      rintro r w4 ⟨rfl, h4b, k4⟩
      have hl4 := spl_len bs q [gB lf q] (by simp; omega)
      go_wp2
      exact ⟨⟨q + 1, by omega, by go_num, _, _, h4b, by omega, by omega, by omega, (hkp.alloc _).trans k4⟩, by simp [intOf]; omega⟩
    · have hcn1' : cnt ≤ 64 := by omega
      have zr := hkp.size
      have HBr := Lib.hid hbuf
      have pr := hbuf.hd.lt
      have cr := hbuf.wd.lt
      have hb0 := fun o => hkp.cell (b := w.heap.size) o (by omega) (by omega)
      have HRr := Lib.hid (RdB.keepB HR2.out HB2.out hkp)
      rw [← hb0] at f0 f1 f2 f3 f4 f5
      have yr : w.heap.size < wr.heap.size := by omega
      clear hb0 hbuf
      go_wp2_with fail
      refine (mBytes_any p c cnt bs _ HBr.out).mono ?_
      rintro r w5 ⟨v5, rfl, o5, b5⟩
      obtain ⟨g5, cap5, rfl, hg5, hl5, hc5, hm5, hcell5⟩ := o5.slice (by omega)
      rw [hLn] at hc5
      have z5 := b5.size
      have HB5 := Lib.hid (HBr.out.belows b5)
      have HR5 := Lib.hid (HRr.out.below b5)
      have hb5 := fun o => b5.cell (p := ⟨w.heap.size, o, none⟩) yr
      rw [← hb5] at f0 f1 f2 f3 f4 f5
      have y5 : w.heap.size < w5.heap.size := by omega
      have K5 := hkp.trans (Below.keeps b5)
      have HC5 := Lib.hid hcell5
      clear hb5 b5 o5 hcell5
      rw [hLn]
      go_wp2_with fail
      have HE0 := Lib.hid (show acE bs.length k a n sl = ev from by rw [hLn]; exact HE.out)
      refine (mDo_bad p c cnt bs k a n x y s0 sl sc _ HB5.out (by rw [HE0.out]; exact hev)).mono ?_
      rintro r w6 ⟨rfl, b6⟩
      rw [HE0.out]
      obtain ⟨bs6, hbs6⟩ : ∃ bs6, bs6 = bs := ⟨_, rfl⟩
      have hlen6 : bs6.length = 64 := by rw [hbs6]; exact hLn
      have HOWN : Hid (∀ i, gB bs6 i = gB bs i) := fun i => by rw [hbs6]
      have HB6 := Lib.hid (show Buf w6 p c cnt bs6 by rw [hbs6]; exact HB5.out.belows b6)
      have z6 := b6.size
      have hb6 := fun o => b6.cell (p := ⟨w.heap.size, o, none⟩) y5
      rw [← hb6] at f0 f1 f2 f3 f4 f5
      have HC6 : Hid (∀ i, i < bs.length → w6.cell? ⟨g5, i, none⟩ = some (.int .u8 (gB bs i))) := fun i hi => by
        rw [b6.cell (p := ⟨g5, i, none⟩) hl5]
        exact HC5.out i hi
      have K6 := K5.trans (Below.keeps b6)
      have y6 : w.heap.size < w6.heap.size := by omega
      clear hb6 b6 hbs6
      unfold anV
      go_wp2_with fail
      refine (mBytes_any p c _ bs6 _ (HB6.out.alloc _)).mono ?_
      rintro r w7 ⟨v7, rfl, o7, b7⟩
      obtain ⟨g7, cap7, rfl, hg7, hl7, hc7, hm7, hcell7⟩ := o7.slice (by omega)
      rw [hlen6] at hc7
      have z7 := b7.size
      simp at z7
      have hb7 := fun o => b7.cell (p := ⟨w.heap.size, o, none⟩) (by simp; omega)
      have f1' : w7.cell? ⟨w.heap.size, 1, none⟩ = some (.int .i64 a) := (hb7 1).trans (by go_simp)
      have f2' : w7.cell? ⟨w.heap.size, 2, none⟩ = some (.int .i64 n) := (hb7 2).trans (by go_simp)
      have HC7 : Hid (∀ i, i < bs.length → w7.cell? ⟨g5, i, none⟩ = some (.int .u8 (gB bs i))) := fun i hi => by
        rw [b7.cell (p := ⟨g5, i, none⟩) (by simp; omega), World.cell?_alloc_lt _ _ _ (by show g5 < w6.heap.size; omega)]
        exact HC6.out i hi
      have HD7 := Lib.hid hcell7
      have K7 := (K6.alloc _).trans (Below.keeps b7)
      have B7 : Below w.heap.size w w7 := B2.trans (K7.below (by omega) (by intro k h; omega))
      clear f0 f1 f2 f3 f4 f5 hb7 b7 o7 hcell7 HC5 HC6 K5 K6 K7
      rw [hlen6]
      go_wp2_with fail
      go_loopw [13, 55] (fun j i wr => ∃ q : Nat, q ≤ 64 ∧ i = .int .i64 q ∧ ∃ d, wr = w7.drewN d) (fun _ i _ => 64 - (intOf i).toNat)
      case atStart => exact ⟨0, by omega, rfl, 0, rfl⟩
      case round =>
        obtain ⟨q, hq, rfl, d, rfl⟩ := hrel
        by_cases hlt : q < 64
        · have e5 := HC7.out q (by omega)
          have e7 := HD7.out q (by omega)
          rcases hne : (gB bs6 q != gB bs q) with _ | _
          · go_wp2_with fail
            go_quiet (fail)
            go_wp2
            exact ⟨⟨q + 1, by omega, by go_num, d + nq, rfl⟩, by simp [intOf]; omega⟩
          · have hown := HOWN.out q
            simp [hown] at hne
        · go_wp2
          go_ret
          exact ⟨rfl, bel_drewN d B7⟩
end Go.Proofs.Ytkbjbpaeoopkfaa
