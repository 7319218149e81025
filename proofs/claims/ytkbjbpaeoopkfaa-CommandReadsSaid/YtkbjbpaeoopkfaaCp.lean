/- Contract of the reference's Parse of a command. -/
import Derived.Test.YtkbjbpaeoopkfaaCo
import Derived.Deep.RegionHeld3
import Derived.Deep.DrawnRows
namespace Go.Proofs.Ytkbjbpaeoopkfaa
attribute [local go_sem ↓] Go.wp_at_zero Go.wp_at_succ
set_option maxRecDepth 100000
open Go.RowKit
set_option linter.unusedVariables false
set_option maxHeartbeats 1000000 in
theorem refFour_any (b off n cap i : Nat) (l : List Int) (w : World) (hn : n + i = l.length) (h4 : 4 ≤ n) (hb : IsB l) (hc : n ≤ cap) (hm : cap ≤ maxLen)
    (h : ∀ j, j < l.length → w.cell? ⟨b, off + j, none⟩ = some (.int .u8 (gB l j))) :
    Calls Try.prog 49 #[.slice (some ⟨b, off + i, none⟩) n cap] w fun e w' => e = .returned (.int .i32 (fo l i)) ∧ w = w' := by
  have hb4 := leN4 hb i
  have hr : RdB w (.slice (some ⟨b, off + i, none⟩) 4 cap) ((l.drop i).take 4) := by
    refine RdB.cells (by simp; omega) (by omega) hm fun j hj => ?_
    rw [Nat.add_assoc, h (i + j) (by omega)]
    congr 2
    simp [gB, List.getD, hj]
  have HL := Lib.hid hn
  have HC := Lib.hid h
  unfold maxLen at hm
  clear h hn
  go_enter Try.func49, Try.ntmps49
  go_wp2_with fail
  refine (refNumber_any _ ((l.drop i).take 4) _ ?_ ((hb.drop i).take 4)).mono ?_
  · exact hr
  rintro e w' ⟨rfl, rfl⟩
  rw [takes4]
  go_wp2
  go_ret
  exact ⟨rfl, rfl⟩
/-- A row of bytes that was there. -/
def Row (w : World) (b off : Nat) (l : List Int) : Prop := ∀ j, j < l.length → w.cell? ⟨b, off + j, none⟩ = some (.int .u8 (gB l j))
theorem Row.past {w w' : World} {b off : Nat} {l : List Int} (h : Row w b off l) (hb : Below w.heap.size w w') : Row w' b off l := fun j hj => by
  rw [hb.cell (p := ⟨b, off + j, none⟩) (World.block_lt_of_cell? w _ (h j hj))]
  exact h j hj
theorem refFour_at (i n c b off : Nat) (l : List Int) (w w0 : World) (hl : l.length = 32) (hb : IsB l) (hr : Row w0 b off l) (hn : n + i = 32) (h4 : 4 ≤ n) (hc : n ≤ c) (hm : c ≤ maxLen) (hw : Below w0.heap.size w0 w) :
    Calls Try.prog 49 #[.slice (some ⟨b, off + i, none⟩) n c] w fun e w' => e = .returned (.int .i32 (fo l i)) ∧ w = w' :=
  refFour_any b off n c i l w (by omega) h4 hb hc hm (hr.past hw)
theorem refFour_0 (c b off : Nat) (l : List Int) (w w0 : World) (hl : l.length = 32) (hb : IsB l) (hr : Row w0 b off l) (hc : 32 ≤ c) (hm : c ≤ maxLen) (hw : Below w0.heap.size w0 w) :
    Calls Try.prog 49 #[.slice (some ⟨b, off, none⟩) 32 c] w fun e w' => e = .returned (.int .i32 (fo l 0)) ∧ w = w' :=
  refFour_at 0 32 c b off l w w0 hl hb hr (by omega) (by omega) hc hm hw
theorem refEight_at (i n c b off : Nat) (l : List Int) (w w0 : World) (hl : l.length = 32) (hb : IsB l) (hr : Row w0 b off l) (hn : 8 + i ≤ 32) (h8 : n = 8) (hc : n ≤ c) (hm : c ≤ maxLen) (hw : Below w0.heap.size w0 w) :
    Calls Try.prog 50 #[.slice (some ⟨b, off + i, none⟩) n c] w fun e w' => e = .returned (.int .u64 (leN ((l.drop i).take 8))) ∧ w = w' := by
  subst h8
  have := refNumber_any (.slice (some ⟨b, off + i, none⟩) 8 c) ((l.drop i).take 8) w (part_rd (cap := 32) (by omega) (by unfold maxLen; omega) (hr.past hw) i 8 c (by omega) hc hm) ((hb.drop i).take 8)
  rw [takes8] at this
  exact this
set_option maxHeartbeats 4000000 in
theorem refParse_row (b off cap : Nat) (l : List Int) (w : World) (hl : l.length = 32) (hb : IsB l) (hc : 32 ≤ cap) (hm : cap ≤ maxLen) (h : Row w b off l) :
    Calls Try.prog 15 #[.slice (some ⟨b, off, none⟩) 32 cap] w fun e w' => e = .returned (.tuple #[pzV l, .bool (pzOk l)]) ∧ Below w.heap.size w w' := by
  have n4 : ¬ cap = 4 := by omega
  have n8 : ¬ cap = 8 := by omega
  have n12 : ¬ cap = 12 := by omega
  have n16 : ¬ cap = 16 := by omega
  have n24 : ¬ cap = 24 := by omega
  have h24 : (24 : Int) ≤ (cap : Int) := by omega
  have h24n : 24 ≤ cap := by omega
  have h24m : ¬ (cap : Int) < 24 := by omega
  by_cases hok : coOk (fo l 0) (fo l 4) (fo l 8) (fo l 12) (ei l 16) (ei l 24) = true
  · have hp : pzOk l = true := by unfold pzOk; simp [hl, hok]
    have HV := Lib.hid (show pzV l = coV (fo l 0) (fo l 4) (fo l 8) (fo l 12) (ei l 16) (ei l 24) by unfold pzV; rw [if_pos hp])
    have HE := Lib.hid hp
    have HO := Lib.hid hok
    clear hp hok
    have HL := Lib.hid hl
    have HC := Lib.hid h
    have hm' := Lib.hid hm
    unfold maxLen at hm
    clear h hl
    have E16 : IntKind.i64.wrap (leN ((l.drop 16).take 8)) = ei l 16 := by unfold ei; exact IntWalk.i64_left _
    have E24 : IntKind.i64.wrap (leN ((l.drop 24).take 8)) = ei l 24 := by unfold ei; exact IntWalk.i64_left _
    go_enter Try.func15, Try.ntmps15
    go_wp2
    go_region_held3 (fun w' => True) (trivial) (first
      | (go_at_call 49; (with_reducible refine (refFour_0 _ b off l _ w HL.out hb HC.out (by omega) hm'.out (by go_grown)).mono ?_); rintro e w' ⟨rfl, rfl⟩)
      | (go_at_call 49; (with_reducible refine (refFour_at _ _ _ b off l _ w HL.out hb HC.out (by omega) (by omega) (by omega) (Nat.le_trans (Nat.sub_le _ _) hm'.out) (by go_grown)).mono ?_); rintro e w' ⟨rfl, rfl⟩)
      | (go_at_call 50; (with_reducible refine (refEight_at _ _ _ b off l _ w HL.out hb HC.out (by omega) (by omega) (by omega) (Nat.le_trans (Nat.sub_le _ _) hm'.out) (by go_grown)).mono ?_); rintro e w' ⟨rfl, rfl⟩))
    all_goals
      go_wp2_with fail
      refine (refRight_any (fo l 0) (fo l 4) (fo l 8) (fo l 12) (ei l 16) (ei l 24) _).mono ?_
      rintro e w1 ⟨rfl, b1⟩
      have z1 := b1.size
      simp at z1
      rw [HO.out]
      have e0 := b1.cell (p := ⟨w.heap.size, 0, none⟩) (by simp <;> omega)
      have e1 := b1.cell (p := ⟨w.heap.size, 1, none⟩) (by simp <;> omega)
      have e2 := b1.cell (p := ⟨w.heap.size, 2, none⟩) (by simp <;> omega)
      have e3 := b1.cell (p := ⟨w.heap.size, 3, none⟩) (by simp <;> omega)
      have e4 := b1.cell (p := ⟨w.heap.size, 4, none⟩) (by simp <;> omega)
      have e5 := b1.cell (p := ⟨w.heap.size, 5, none⟩) (by simp <;> omega)
      have g0 := b1.frozen (p := ⟨w.heap.size, 0, none⟩) (by simp <;> omega)
      have g1 := b1.frozen (p := ⟨w.heap.size, 1, none⟩) (by simp <;> omega)
      have g2 := b1.frozen (p := ⟨w.heap.size, 2, none⟩) (by simp <;> omega)
      have g3 := b1.frozen (p := ⟨w.heap.size, 3, none⟩) (by simp <;> omega)
      have g4 := b1.frozen (p := ⟨w.heap.size, 4, none⟩) (by simp <;> omega)
      have g5 := b1.frozen (p := ⟨w.heap.size, 5, none⟩) (by simp <;> omega)
      have c0 := b1.cell (p := ⟨w.heap.size + 1, 0, none⟩) (by simp)
      have c1 := b1.cell (p := ⟨w.heap.size + 1, 1, none⟩) (by simp)
      have c2 := b1.cell (p := ⟨w.heap.size + 1, 2, none⟩) (by simp)
      have c3 := b1.cell (p := ⟨w.heap.size + 1, 3, none⟩) (by simp)
      have c4 := b1.cell (p := ⟨w.heap.size + 1, 4, none⟩) (by simp)
      have c5 := b1.cell (p := ⟨w.heap.size + 1, 5, none⟩) (by simp)
      go_wp2
      refine bodyPost_ret (v := .tuple #[coV (fo l 0) (fo l 4) (fo l 8) (fo l 12) (ei l 16) (ei l 24), .bool true]) ?_ rfl ⟨by rw [HV.out, HE.out], ?_⟩
      · rw [results_cell_tmp rfl]
        go_simp
        first | done | exact ⟨rfl, rfl⟩ | rfl
      · have q : Below w.heap.size w w1 := Below.trans (by go_grown) (b1.mono (by simp <;> omega))
        repeat' (refine Below.setCell ?_ (by simp) _)
        exact q
  · have hok' : coOk (fo l 0) (fo l 4) (fo l 8) (fo l 12) (ei l 16) (ei l 24) = false := by simpa using hok
    have hp : pzOk l = false := by unfold pzOk; simp [hok']
    have HV := Lib.hid (show pzV l = coV 0 0 0 0 0 0 by unfold pzV; rw [hp]; rfl)
    have HE := Lib.hid hp
    have HO := Lib.hid hok'
    clear hp hok hok'
    have HL := Lib.hid hl
    have HC := Lib.hid h
    have hm' := Lib.hid hm
    unfold maxLen at hm
    clear h hl
    have E16 : IntKind.i64.wrap (leN ((l.drop 16).take 8)) = ei l 16 := by unfold ei; exact IntWalk.i64_left _
    have E24 : IntKind.i64.wrap (leN ((l.drop 24).take 8)) = ei l 24 := by unfold ei; exact IntWalk.i64_left _
    go_enter Try.func15, Try.ntmps15
    go_wp2
    go_region_held3 (fun w' => True) (trivial) (first
      | (go_at_call 49; (with_reducible refine (refFour_0 _ b off l _ w HL.out hb HC.out (by omega) hm'.out (by go_grown)).mono ?_); rintro e w' ⟨rfl, rfl⟩)
      | (go_at_call 49; (with_reducible refine (refFour_at _ _ _ b off l _ w HL.out hb HC.out (by omega) (by omega) (by omega) (Nat.le_trans (Nat.sub_le _ _) hm'.out) (by go_grown)).mono ?_); rintro e w' ⟨rfl, rfl⟩)
      | (go_at_call 50; (with_reducible refine (refEight_at _ _ _ b off l _ w HL.out hb HC.out (by omega) (by omega) (by omega) (Nat.le_trans (Nat.sub_le _ _) hm'.out) (by go_grown)).mono ?_); rintro e w' ⟨rfl, rfl⟩))
    all_goals
      go_wp2_with fail
      refine (refRight_any (fo l 0) (fo l 4) (fo l 8) (fo l 12) (ei l 16) (ei l 24) _).mono ?_
      rintro e w1 ⟨rfl, b1⟩
      have z1 := b1.size
      simp at z1
      rw [HO.out]
      have e0 := b1.cell (p := ⟨w.heap.size, 0, none⟩) (by simp <;> omega)
      have e1 := b1.cell (p := ⟨w.heap.size, 1, none⟩) (by simp <;> omega)
      have e2 := b1.cell (p := ⟨w.heap.size, 2, none⟩) (by simp <;> omega)
      have e3 := b1.cell (p := ⟨w.heap.size, 3, none⟩) (by simp <;> omega)
      have e4 := b1.cell (p := ⟨w.heap.size, 4, none⟩) (by simp <;> omega)
      have e5 := b1.cell (p := ⟨w.heap.size, 5, none⟩) (by simp <;> omega)
      have g0 := b1.frozen (p := ⟨w.heap.size, 0, none⟩) (by simp <;> omega)
      have g1 := b1.frozen (p := ⟨w.heap.size, 1, none⟩) (by simp <;> omega)
      have g2 := b1.frozen (p := ⟨w.heap.size, 2, none⟩) (by simp <;> omega)
      have g3 := b1.frozen (p := ⟨w.heap.size, 3, none⟩) (by simp <;> omega)
      have g4 := b1.frozen (p := ⟨w.heap.size, 4, none⟩) (by simp <;> omega)
      have g5 := b1.frozen (p := ⟨w.heap.size, 5, none⟩) (by simp <;> omega)
      go_wp2
      refine bodyPost_ret (v := .tuple #[coV 0 0 0 0 0 0, .bool false]) ?_ rfl ⟨by rw [HV.out, HE.out], ?_⟩
      · rw [results_cell_tmp rfl]
        go_simp
        first | done | exact ⟨rfl, rfl⟩ | rfl
      · have q : Below w.heap.size w w1 := Below.trans (by go_grown) (b1.mono (by simp <;> omega))
        repeat' (refine Below.setCell ?_ (by simp) _)
        exact q
set_option maxHeartbeats 1000000 in
theorem refParse_no (v : Value) (l : List Int) (w : World) (h : RdB w v l) (hl : l.length ≠ 32) :
    Calls Try.prog 15 #[v] w fun e w' => e = .returned (.tuple #[pzV l, .bool (pzOk l)]) ∧ Below w.heap.size w w' := by
  have hp : pzOk l = false := by unfold pzOk; simp [hl]
  have HV := Lib.hid (show pzV l = coV 0 0 0 0 0 0 by unfold pzV; rw [hp]; rfl)
  have HE := Lib.hid hp
  clear hp
  obtain ⟨a0, n, c, rfl, hn⟩ : ∃ a0 n c, v = .slice a0 n c ∧ n = l.length := by
    rcases h with ⟨rfl, rfl⟩ | ⟨a, cap, rfl, rfl, hm⟩ | ⟨b, off, cap, rfl, hc, hm, hcell⟩
    · exact ⟨_, _, _, rfl, rfl⟩
    · exact ⟨_, _, _, rfl, rfl⟩
    · exact ⟨_, _, _, rfl, rfl⟩
  have hnb : ((n : Int) != 32) = true := by simp; omega
  clear hn hl h
  go_enter Try.func15, Try.ntmps15
  go_wp2
  refine bodyPost_ret (v := .tuple #[coV 0 0 0 0 0 0, .bool false]) ?_ rfl ⟨by rw [HV.out, HE.out], ?_⟩
  · rw [results_cell_tmp rfl]
    go_simp
    first | done | exact ⟨rfl, rfl⟩ | rfl
  · go_grown
/-- The reference's Parse, at whatever bytes. -/
theorem refParse_any (v : Value) (l : List Int) (w : World) (h : RdB w v l) (hb : IsB l) :
    Calls Try.prog 15 #[v] w fun e w' => e = .returned (.tuple #[pzV l, .bool (pzOk l)]) ∧ Below w.heap.size w w' := by
  by_cases hl : l.length = 32
  · rcases h with ⟨rfl, rfl⟩ | ⟨a, cap, rfl, rfl, hm⟩ | ⟨b, off, cap, rfl, hc, hm, hcell⟩
    · simp at hl
    · simp at hl
    · have := refParse_row b off cap l w hl hb (by omega) hm hcell
      rw [hl]
      exact this
  · exact refParse_no v l w h hl
end Go.Proofs.Ytkbjbpaeoopkfaa
