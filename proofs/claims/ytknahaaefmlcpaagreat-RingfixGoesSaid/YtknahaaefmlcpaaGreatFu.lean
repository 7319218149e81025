/- Did all that was put whole come out? Conditions: none. -/
import Derived.Test.YtknahaaefmlcpaaGreatFt
import Derived.Test.YtknahaaefmlcpaaGreatGt
import Derived.Deep.DeepCutAuto
namespace Go.Proofs.YtknahaaefmlcpaaGreat
set_option maxRecDepth 100000
open Go.RowKit
set_option linter.unusedVariables false
set_option linter.unusedSimpArgs false
/-- The messages that came out, and whose they are. -/
structure Camed (P : List PutM) (m9 : PutM) (L : List BytV) (out : List (Int × List Int)) (last : Nat → Int) : Prop where
  l0 : last 0 = -1
  e9 : m9.e = 0
  n : out.length = okN P + 1
  at_ : ∀ j t d, out[j]? = some (t, d) → last j < last (j + 1) ∧ ((t = 99 ∧ d = [108, 97, 115, 116] ∧ m9.pos = last (j + 1)) ∨ ∃ (i : Nat) (m : PutM) (x : BytV), P[i]? = some m ∧ L[i]? = some x ∧ m.e = 0 ∧ t = (1 + (i : Int)) ∧ x.b = d ∧ m.pos = last (j + 1))
theorem str_last : strOfNums [108, 97, 115, 116] = { data := #[108, 97, 115, 116] } := by decide
set_option maxHeartbeats 2000000 in
theorem came_any (P : List PutM) (m9 : PutM) (qs : Nat → Nat) (q9 : Nat) (t0 : Option Addr) (tc : Nat) (L : List BytV) {pv gv : Value} {O R : Nat → Prop} {out : List (Int × List Int)} {last : Nat → Int} (w : World) (hr : RdR w (.slice t0 L.length tc) 1 (L.map BytV.cs)) (hL : ∀ x ∈ L, BytV.Ok w x) (hn : L.length ≤ 8) (hpl : P.length = L.length) {vs : List Value} (hp : w.ownsRow 0 38 1 pv P.length vs) (hvs : ∀ i, i < P.length → vs[i]? = some (.pointer (some ⟨qs i, 0, none⟩))) (hP : ∀ i m, P[i]? = some m → ∃ F, PutF w F (qs i) m) (h9 : ∃ F, PutF w F q9 m9) (hg : MsIn w O R gv out) (hO : Camed P m9 L out last) :
    Calls Tryz.prog 26 #[pv, .slice t0 L.length tc, .pointer (some ⟨q9, 0, none⟩), gv] w fun e w' => e = .returned (.bool true) ∧ Below w.heap.size w w' := by
  have HR := Lib.hid hr
  have HL := Lib.hid hL
  have HPO := Lib.hid hp
  have HPF := Lib.hid hP
  have HG := Lib.hid hg
  have HO := Lib.hid hO
  have HPL := Lib.hid hpl
  have HVS := Lib.hid hvs
  obtain ⟨F9, hF9⟩ := h9
  have HF9 := Lib.hid hF9
  obtain ⟨gp, gc, rfl⟩ := hg.sl
  obtain ⟨pa, pn, pc, rfl⟩ := own_isSl hp
  have hpn : pn = P.length := by
    rcases hp.2 with ⟨e, h0⟩ | ⟨g, cap, cur, e, _⟩
    · cases e
      exact h0.symm
    · cases e
      rfl
  subst hpn
  have hlast := hO.l0
  have hP8 : P.length ≤ 8 := by omega
  have hout : out.length ≤ 9 := by have := hO.n; have := okN_le P; omega
  clear hr hL hp hP hg hO hpl hvs hF9
  go_enter Tryz.func26, Tryz.ntmps26
  go_wp2_with fail
  go_loopw [10, 23] (fun n i wr => ∃ k : Nat, k ≤ P.length ∧ i = .int .i64 k ∧ n = .int .i64 (1 + okN (P.take k) : Nat) ∧ Below w.heap.size w wr) (fun _ i _ => P.length - (intOf i).toNat)
  case atStart => exact ⟨0, by omega, rfl, rfl, Below.refl _ _⟩
  case round =>
    obtain ⟨k, hk, rfl, rfl, hB⟩ := hrel
    have HB := Lib.hid hB
    clear hB
    by_cases hlt : k < P.length
    · obtain ⟨m, hm⟩ : ∃ m, P[k]? = some m := ⟨_, List.getElem?_eq_getElem hlt⟩
      obtain ⟨F, hF⟩ := HPF.out k m hm
      obtain ⟨g, cap, e1, hcell, hc1, hc2⟩ : ∃ g cap, (Value.slice pa P.length pc) = .slice (some ⟨g, 0, none⟩) P.length cap ∧ w.cell? ⟨g, k, none⟩ = some (.pointer (some ⟨qs k, 0, none⟩)) ∧ P.length ≤ cap ∧ cap ≤ maxLen := by
        have ho := HPO.out
        rcases ho.2 with ⟨_, h0⟩ | ⟨g, cap, cur, e, _, _, h1, h2, _⟩
        · omega
        · refine ⟨g, cap, e, ?_, h1, h2⟩
          rw [e] at ho
          rw [World.ownsRow.cellAt ho k (by omega)]
          exact HVS.out k hlt
      cases e1
      have hcr := (HB.out.cell (p := ⟨g, k, none⟩) (World.block_lt_of_cell? w _ hcell)).trans hcell
      have hki : (k : Int) < (P.length : Int) := by omega
      have HF := Lib.hid (hF.below (show Below w.heap.size w wr from HB.out))
      have HM := Lib.hid (okN_take hm)
      clear hcell hF hm
      go_wp2_with fail
      obtain ⟨_, _, O8, bv8, _, hI8⟩ := HF.out
      refine (pResult_any wr hI8.at_).mono ?_
      rintro e w2 ⟨rfl, b2⟩
      have HB2 := Lib.hid (HB.out.trans (b2.mono HB.out.size))
      have hkn := okN_le (P.take k)
      rw [List.length_take] at hkn
      clear hI8 b2 hcr
      by_cases he : m.e = 0
      · have HE := Lib.hid he
        rw [he]
        clear he
        go_wp2
        refine ⟨⟨k + 1, by omega, by go_num, ?_, HB2.out⟩, by simp [intOf]; omega⟩
        rw [HM.out, if_pos HE.out]
        go_num
      · have HE := Lib.hid he
        have q : (m.e == 0) = false := by simpa using he
        clear he
        go_wp2
        refine ⟨⟨k + 1, by omega, by go_num, ?_, HB2.out⟩, by simp [intOf]; omega⟩
        rw [HM.out, if_neg HE.out]
        rfl
    · obtain rfl : k = P.length := by omega
      have hno : out.length = 1 + okN P := by rw [HO.out.n]; omega
      rw [List.take_of_length_le (Nat.le_refl _), ← hno]
      clear hno hlt
      go_wp2_with fail
      go_loopw [9, 39] (fun l i wl => ∃ j : Nat, j ≤ out.length ∧ i = .int .i64 j ∧ l = .int .i64 (last j) ∧ Below w.heap.size w wl) (fun _ i _ => out.length - (intOf i).toNat)
      case atStart => exact ⟨0, by omega, rfl, by rw [hlast], HB.out⟩
      case round =>
        obtain ⟨j, hj, rfl, rfl, hB2⟩ := hrel
        have HB2 := Lib.hid hB2
        clear hB2
        by_cases hjl : j < out.length
        · obtain ⟨⟨t, d⟩, hx⟩ : ∃ x, out[j]? = some x := ⟨_, List.getElem?_eq_getElem hjl⟩
          obtain ⟨hup, hway⟩ := HO.out.at_ j t d hx
          have hM := HG.out.keep (M := fun _ => False) (Below.keeps HB2.out) (fun _ _ => id) (fun _ _ => id)
          obtain ⟨g1, c1, s1, n1, d1, e1, p1, p2, r1⟩ := hM.ms_cell hx
          cases e1
          have HR1 := Lib.hid r1
          have HWY := Lib.hid hway
          have hji : (j : Int) < (out.length : Int) := by omega
          have hj0 : (0 : Int) ≤ (j : Int) := by omega
          clear hx hM r1 hway
          obtain ⟨w1, hw1⟩ : ∃ w1, w1 = wr.alloc (.cells #[.int .i32 t, .slice s1 n1 d1] 84) := ⟨_, rfl⟩
          have X1 := Lib.hid (show Blk w1 wr.heap.size [.int .i32 t, .slice s1 n1 d1] by rw [hw1]; exact Blk.made wr _ _)
          have B1 := Lib.hid (show Below wr.heap.size wr w1 by rw [hw1]; go_grown)
          go_upto_region 12 with fail
          rw [← hw1]
          clear hw1
          have z1 := B1.out.size
          have lx := X1.out.lt
          have zb2 := HB2.out.size
          go_wp2_with fail
          obtain ⟨_, _, O9, bv9, _, hI9⟩ := HF9.out.below (HB2.out.trans (B1.out.mono HB2.out.size))
          refine (pResult_any _ hI9.at_).mono ?_
          rintro e w2 ⟨rfl, b2⟩
          have HE9 := Lib.hid HO.out.e9
          rw [show m9.rv = m9.pos by unfold PutM.rv; rw [if_pos HE9.out], HE9.out]
          have X2 := Lib.hid (X1.out.below b2 lx)
          have B2 := Lib.hid (B1.out.trans (b2.mono z1))
          have BW2 := Lib.hid (HB2.out.trans (B2.out.mono HB2.out.size))
          have z2 := B2.out.size
          have lx2 := X2.out.lt
          have y0 := X2.out.cell 0
          have y1 := X2.out.cell 1
          simp only [List.getElem?_cons_zero, List.getElem?_cons_succ] at y0 y1
          clear hI9 b2 p1 p2
          go_upto_if 50 with fail
          go_cut [17, 18, 19] (fun a f s wx => a = .int .i64 (last (j + 1)) ∧ f = .int .i64 0 ∧ s = .string (strOfNums d) ∧ Below w2.heap.size w2 wx)
          case first =>
            rcases HWY.out with ⟨rfl, rfl, hp9⟩ | ⟨i, m, x, hPi, hLi, he0, rfl, rfl, hpos⟩
            · rw [hp9]
              go_wp2_with fail
              go_meet
              exact ⟨rfl, rfl, by rw [str_last], Below.refl _ _⟩
            · obtain ⟨F, hF⟩ := HPF.out i m hPi
              have hil : i < P.length := (List.getElem?_eq_some_iff.1 hPi).1
              obtain ⟨g, cap, e1, hcell, hc1, hc2⟩ : ∃ g cap, (Value.slice pa P.length pc) = .slice (some ⟨g, 0, none⟩) P.length cap ∧ w.cell? ⟨g, i, none⟩ = some (.pointer (some ⟨qs i, 0, none⟩)) ∧ P.length ≤ cap ∧ cap ≤ maxLen := by
                have ho := HPO.out
                rcases ho.2 with ⟨_, h0⟩ | ⟨g, cap, cur, e, _, _, h1, h2, _⟩
                · omega
                · refine ⟨g, cap, e, ?_, h1, h2⟩
                  rw [e] at ho
                  rw [World.ownsRow.cellAt ho i (by omega)]
                  exact HVS.out i hil
              cases e1
              obtain ⟨bk, off, rfl, hcl, hc3, hc4⟩ := rowB_at HR.out hLi
              obtain ⟨⟨sa, sn, scc, hsv⟩, hrd, hib⟩ := HL.out x (List.mem_of_getElem? hLi)
              rw [hsv] at hcl hrd
              have hcr := (BW2.out.cell (p := ⟨g, i, none⟩) (World.block_lt_of_cell? w _ hcell)).trans hcell
              have hlk := World.block_lt_of_cell? w _ hcl
              have hcx := (BW2.out.cell (p := ⟨bk, off + i, none⟩) hlk).trans hcl
              have HRX := Lib.hid hrd
              have HCX := Lib.hid hcl
              have HF := Lib.hid (hF.below BW2.out)
              have HRV := Lib.hid (show m.rv = last (j + 1) by unfold PutM.rv; rw [if_pos he0]; exact hpos)
              have HE0 := Lib.hid he0
              have W1 : IntKind.i64.wrap ((1 + (i : Int)) - 1) = (i : Int) := by rw [IntWalk.i64_in _ ⟨by omega, by omega⟩]; omega
              have hil2 : (i : Int) < (P.length : Int) := by omega
              have hil3 : (i : Int) < (L.length : Int) := by have := HPL.out; omega
              have hi0 : (0 : Int) ≤ (i : Int) := by omega
              have hi1 : ¬ (i : Int) < 0 := by omega
              have hi2 : ¬ (P.length : Int) ≤ (i : Int) := by omega
              have hn99 : ((1 + (i : Int)) == 99) = false := by
                have : (1 + (i : Int)) ≠ 99 := by omega
                simpa using this
              clear hcell hcl hF hrd hib hsv hPi hLi he0 hpos
              go_wp2_with fail
              obtain ⟨_, _, O8, bv8, _, hI8⟩ := HF.out
              refine (pResult_any _ hI8.at_).mono ?_
              rintro e w3 ⟨rfl, b3⟩
              rw [HRV.out, HE0.out]
              have B3 := Lib.hid b3
              have BW3 := Lib.hid (BW2.out.trans (b3.mono BW2.out.size))
              have hcx3 := (BW3.out.cell (p := ⟨bk, off + i, none⟩) hlk).trans HCX.out
              have cv2 := conv_rd (w := w3) 22 9 Tryz.underlying22 Tryz.underlying9 (HRX.out.below BW3.out)
              clear hI8 b3 hcx hcr
              go_wp2_with fail
              go_meet
              exact ⟨rfl, rfl, rfl, B3.out⟩
          case rest =>
            obtain ⟨rfl, rfl, rfl, b3⟩ := hcut
            have X3 := Lib.hid (X2.out.below b3 lx2)
            have B3 := Lib.hid (B2.out.trans (b3.mono z2))
            have BW3 := Lib.hid (BW2.out.trans (b3.mono BW2.out.size))
            have z3 := b3.size
            have lx3 := X3.out.lt
            have y0 := X3.out.cell 0
            have y1 := X3.out.cell 1
            simp only [List.getElem?_cons_zero, List.getElem?_cons_succ] at y0 y1
            have hnl : ¬ last (j + 1) ≤ last j := by omega
            have cv1 := conv_rd (w := wc) 22 9 Tryz.underlying22 Tryz.underlying9 (HR1.out.below B3.out)
            clear b3 hup
            go_wp2
            exact ⟨⟨j + 1, by omega, by go_num, rfl, BW3.out⟩, by simp [intOf]; omega⟩
        · obtain rfl : j = out.length := by omega
          go_wp2
          go_ret
          exact ⟨rfl, HB2.out⟩
end Go.Proofs.YtknahaaefmlcpaaGreat
