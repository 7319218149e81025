/- The walk of the law CommandReads. Conditions: none. -/
import Derived.Test.YtkbjbpaeoopkfaaCq
import Derived.Test.YtkbjbpaeoopkfaaCf
import Derived.Test.YtkbjbpaeoopkfaaCp
namespace Go.Proofs.Ytkbjbpaeoopkfaa
set_option maxRecDepth 100000
open Go.RowKit
set_option linter.unusedVariables false
theorem RdB.isSlice {w : World} {v : Value} {l : List Int} (h : RdB w v l) : ∃ a n c, v = .slice a n c ∧ n = l.length := by
  rcases h with ⟨rfl, rfl⟩ | ⟨a, cap, rfl, rfl, hm⟩ | ⟨b, off, cap, rfl, hc, hm, hcell⟩
  · exact ⟨_, _, _, rfl, rfl⟩
  · exact ⟨_, _, _, rfl, rfl⟩
  · exact ⟨_, _, _, rfl, rfl⟩
theorem pz_ok {l : List Int} (h : pzOk l = true) : pzV l = coV (fo l 0) (fo l 4) (fo l 8) (fo l 12) (ei l 16) (ei l 24) ∧ pzE l = 0 ∧ coOk (fo l 0) (fo l 4) (fo l 8) (fo l 12) (ei l 16) (ei l 24) = true ∧ l.length = 32 := by
  refine ⟨by unfold pzV; rw [if_pos h], by unfold pzE; rw [if_pos h], ?_, ?_⟩
  · unfold pzOk at h
    simp at h
    exact h.2
  · unfold pzOk at h
    simp at h
    exact h.1
theorem pz_no {l : List Int} (h : pzOk l = false) : pzV l = coV 0 0 0 0 0 0 ∧ pzE l = 8 :=
  ⟨by unfold pzV; rw [h]; rfl, by unfold pzE; rw [h]; rfl⟩
set_option maxHeartbeats 1000000 in
theorem reads_walk (v : Value) (l : List Int) (w : World) (h : RdB w v l) (hb : IsB l) :
    Calls Try.prog 3 #[v] w fun r w' => r = .returned (.bool true) ∧ Below w.heap.size w w' := by
  obtain ⟨va, vn, vc, rfl, hn⟩ := h.isSlice
  by_cases hbig : (100 : Int) < (vn : Int)
  · clear hn
    go_enter Try.func3, Try.ntmps3
    go_wp2_with fail
    refine (coFixed _).mono ?_
    rintro r w1 ⟨rfl, b1⟩
    go_wp2
    go_ret
    exact ⟨rfl, b1⟩
  have H := Lib.hid h
  have HN := Lib.hid hn
  clear h hn
  rcases hok : pzOk l with _ | _
  · have HV := Lib.hid (pz_no hok)
    have HO := Lib.hid hok
    clear hok
    go_enter Try.func3, Try.ntmps3
    go_wp2_with fail
    refine (coFixed _).mono ?_
    rintro r w1 ⟨rfl, b1⟩
    go_wp2_with fail
    refine (coParse_any _ l _ (H.out.below b1) hb).mono ?_
    rintro r w2 ⟨rfl, b2⟩
    rw [HV.out.1, HV.out.2]
    unfold coV
    have z1 := b1.size
    have z2 := b2.size
    have B2 := b1.trans (b2.mono z1)
    clear b1 b2
    go_wp2_with fail
    refine (refParse_any _ l _ ?_ hb).mono ?_
    · exact H.out.below (B2.alloc (by omega) _)
    rintro r w3 ⟨rfl, b3⟩
    rw [HV.out.1, HO.out]
    unfold coV
    have z3 := b3.size
    simp at z3
    have B3 : Below w.heap.size w w3 := (B2.alloc (by omega) _).trans (b3.mono (by simp <;> omega))
    obtain ⟨e0, e1, e2, e3, e4, e5⟩ := cells6 b3
    have z3s : w2.heap.size < w3.heap.size := by omega
    clear b3
    go_wp2
    go_ret
    exact ⟨rfl, B3.trans (Below.mono (B := w3.heap.size) (by go_grown) (by omega))⟩
  · have HV := Lib.hid (pz_ok hok)
    have HO := Lib.hid hok
    have HE := Lib.hid (coE_ok (pz_ok hok).2.2.1)
    have HL := Lib.hid (coL_fo hb (pz_ok hok).2.2.2)
    have HB := Lib.hid (show coB (fo l 0) (fo l 4) (fo l 8) (fo l 12) (ei l 16) (ei l 24) = coL (fo l 0) (fo l 4) (fo l 8) (fo l 12) (ei l 16) (ei l 24) by unfold coB; rw [if_pos (pz_ok hok).2.2.1])
    clear hok
    go_enter Try.func3, Try.ntmps3
    go_wp2_with fail
    refine (coFixed _).mono ?_
    rintro r w1 ⟨rfl, b1⟩
    go_wp2_with fail
    refine (coParse_any _ l _ (H.out.below b1) hb).mono ?_
    rintro r w2 ⟨rfl, b2⟩
    rw [HV.out.1, HV.out.2.1]
    unfold coV
    have z1 := b1.size
    have z2 := b2.size
    have B2 := b1.trans (b2.mono z1)
    clear b1 b2
    go_wp2_with fail
    refine (refParse_any _ l _ ?_ hb).mono ?_
    · exact H.out.below (B2.alloc (by omega) _)
    rintro r w3 ⟨rfl, b3⟩
    rw [HV.out.1, HO.out]
    unfold coV
    have z3 := b3.size
    simp at z3
    have B3 : Below w.heap.size w w3 := (B2.alloc (by omega) _).trans (b3.mono (by simp <;> omega))
    obtain ⟨e0, e1, e2, e3, e4, e5⟩ := cells6 b3
    have z3s : w2.heap.size < w3.heap.size := by omega
    clear b3
    go_wp2_with fail
    refine (coBytes_any (fo l 0) (fo l 4) (fo l 8) (fo l 12) (ei l 16) (ei l 24) _).mono ?_
    rintro r w4 ⟨v4, rfl, o4, b4⟩
    rw [HE.out]
    rw [HB.out, HL.out] at o4
    have z4 := b4.size
    simp at z4
    have B4 : Below w.heap.size w w4 := (B3.alloc (by omega) _).trans (b4.mono (by simp <;> omega))
    obtain ⟨x4, n4, c4, rfl⟩ := o4.isSlice
    have cv1 := conv_rd (w := w4) 22 9 Try.underlying22 Try.underlying9 o4.rd
    have cv2 := conv_rd (w := w4) 22 9 Try.underlying22 Try.underlying9 (H.out.below B4)
    clear o4 b4
    go_wp2
    go_ret
    exact ⟨rfl, B4⟩
end Go.Proofs.Ytkbjbpaeoopkfaa
