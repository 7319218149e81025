/- Contract of command.Bytes. -/
import Derived.Test.YtkbjbpaeoopkfaaCt
import Derived.Test.YtkbjbpaeoopkfaaAp
namespace Go.Proofs.Ytkbjbpaeoopkfaa
set_option maxRecDepth 100000
open Go.RowKit
set_option linter.unusedVariables false
/-- Numbers in four bytes, numbers in eight. -/
def cb4 (l : List Int) : List Int := l.flatMap fun x => leB (x % 4294967296) 4
def cb8 (l : List Int) : List Int := l.flatMap fun x => leB (x % 18446744073709551616) 8
theorem cb4_is (l : List Int) : IsB (cb4 l) := by
  intro x hx
  obtain ⟨y, _, hy⟩ := List.mem_flatMap.1 hx
  exact leB_is _ _ x hy
theorem cb8_is (l : List Int) : IsB (cb8 l) := by
  intro x hx
  obtain ⟨y, _, hy⟩ := List.mem_flatMap.1 hx
  exact leB_is _ _ x hy
/-- A command's bytes. -/
def coL (k st se er co cl : Int) : List Int := cb4 [k, st, se, er] ++ cb8 [co, cl]
def coB (k st se er co cl : Int) : List Int := if coOk k st se er co cl = true then coL k st se er co cl else []
theorem cells_new {w w1 : World} {c : Array Value} {t : TypeId} (h : Below (w.alloc (.cells c t)).heap.size (w.alloc (.cells c t)) w1) (i : Nat) : w1.cell? ⟨w.heap.size, i, none⟩ = c[i]? := by
  rw [h.cell (p := ⟨w.heap.size, i, none⟩) (by simp), World.cell?, (MapKept.heap_alloc w _).1]
  rfl
theorem cells6 {w w1 : World} {a b c d e f : Value} {t : TypeId} (h : Below (w.alloc (.cells #[a, b, c, d, e, f] t)).heap.size (w.alloc (.cells #[a, b, c, d, e, f] t)) w1) :
    w1.cell? ⟨w.heap.size, 0, none⟩ = some a ∧ w1.cell? ⟨w.heap.size, 1, none⟩ = some b ∧ w1.cell? ⟨w.heap.size, 2, none⟩ = some c ∧ w1.cell? ⟨w.heap.size, 3, none⟩ = some d ∧ w1.cell? ⟨w.heap.size, 4, none⟩ = some e ∧ w1.cell? ⟨w.heap.size, 5, none⟩ = some f :=
  ⟨cells_new h 0, cells_new h 1, cells_new h 2, cells_new h 3, cells_new h 4, cells_new h 5⟩
theorem ix4 (a b c d : Value) : (∀ w, (Instr.index 88 (.agg #[a, b, c, d]) (.int .i64 0)).run Try.prog w = .ok a w) ∧ (∀ w, (Instr.index 88 (.agg #[a, b, c, d]) (.int .i64 1)).run Try.prog w = .ok b w) ∧
    (∀ w, (Instr.index 88 (.agg #[a, b, c, d]) (.int .i64 2)).run Try.prog w = .ok c w) ∧ ∀ w, (Instr.index 88 (.agg #[a, b, c, d]) (.int .i64 3)).run Try.prog w = .ok d w :=
  ⟨fun _ => by kernel_rfl, fun _ => by kernel_rfl, fun _ => by kernel_rfl, fun _ => by kernel_rfl⟩
theorem ix2 (a b : Value) : (∀ w, (Instr.index 90 (.agg #[a, b]) (.int .i64 0)).run Try.prog w = .ok a w) ∧ ∀ w, (Instr.index 90 (.agg #[a, b]) (.int .i64 1)).run Try.prog w = .ok b w :=
  ⟨fun _ => by kernel_rfl, fun _ => by kernel_rfl⟩
set_option maxHeartbeats 4000000 in
theorem coBytes_any (k st se er co cl : Int) (w : World) :
    Calls Try.prog 16 #[.agg #[.int .i32 k, .int .i32 st, .int .i32 se, .int .i32 er, .int .i64 co, .int .i64 cl]] w fun e w' => ∃ v, e = .returned (.tuple #[v, .int .i64 (coE k st se er co cl)]) ∧ OwB 5 w.heap.size w' v (coB k st se er co cl) ∧ Below w.heap.size w w' := by
  obtain ⟨i0, hi, hz0, hz1, hz2⟩ := info_parts u8info
  by_cases hok : coOk k st se er co cl = false
  · have HV := Lib.hid (coE_no hok)
    have HL := Lib.hid (show coB k st se er co cl = [] by unfold coB; rw [hok]; rfl)
    go_enter Try.func16, Try.ntmps16
    go_wp2_with fail
    refine (coCheck_any k st se er co cl _).mono ?_
    rintro e w1 ⟨rfl, b1⟩
    rw [HV.out]
    go_wp2
    go_ret2
    refine ⟨.slice none 0 0, by rw [HV.out]; rfl, by rw [HL.out]; exact OwB.nil _ _ _, ?_⟩
    exact ((Below.refl w.heap.size w).alloc (Nat.le_refl _) _).trans (b1.mono (by simp))
  have hok' : coOk k st se er co cl = true := by simpa using hok
  have HV := Lib.hid (coE_ok hok')
  have HL := Lib.hid (show coB k st se er co cl = coL k st se er co cl by unfold coB; rw [if_pos hok'])
  go_enter Try.func16, Try.ntmps16
  go_wp2_with fail
  refine (coCheck_any k st se er co cl _).mono ?_
  rintro e w1 ⟨rfl, b1⟩
  rw [HV.out]
  obtain ⟨f0, f1, f2, f3, f4, f5⟩ := cells6 b1
  have z1 : w.heap.size + 1 ≤ w1.heap.size := by
    have := b1.size
    simpa using this
  replace b1 : Below w.heap.size w w1 := ((Below.refl w.heap.size w).alloc (Nat.le_refl _) _).trans (b1.mono (by simp))
  have O1 : OwB 5 (w.heap.size + 1) w1 (.slice none 0 0) [] := OwB.nil _ _ _
  have D1 : Below (w.heap.size + 1) w1 w1 := Below.refl _ _
  obtain ⟨x0, x1, x2, x3⟩ := ix4 (.int .i32 k) (.int .i32 st) (.int .i32 se) (.int .i32 er)
  -- ROUNDS
  go_wp2_with fail
  refine wp_loop_rounds 5 ?_
  rw [rounds_succ]
  go_wp2_with fail
  refine (wBytes_any (k % 4294967296) 4 _ (by omega) (by omega) (by decide)).mono ?_
  rintro e w1a ⟨v1a, rfl, o1a, b1a⟩
  have z1a := b1a.size
  have O1a := O1.below b1a
  have B1a := D1.trans (b1a.mono (by omega))
  go_wp2_with (refine list_app rfl (.tmp 27) (.tmp 31) rfl (w.heap.size + 1) _ v1a _ (leB (k % 4294967296) 4) rfl O1a rfl o1a.rd (by simp [leB_length]) (by omega) ?_)
  intro v2 w2 p1
  have O2 := p1.1
  have D2 := p1.below B1a (by omega) O1a.own_ge
  have z2 := D2.size
  go_wp2_with fail
  rw [rounds_succ]
  go_wp2_with fail
  refine (wBytes_any (st % 4294967296) 4 _ (by omega) (by omega) (by decide)).mono ?_
  rintro e w2a ⟨v2a, rfl, o2a, b2a⟩
  have z2a := b2a.size
  have O2a := O2.below b2a
  have B2a := D2.trans (b2a.mono (by omega))
  go_wp2_with (refine list_app rfl (.tmp 27) (.tmp 31) rfl (w.heap.size + 1) _ v2a _ (leB (st % 4294967296) 4) rfl O2a rfl o2a.rd (by simp [leB_length]) (by omega) ?_)
  intro v3 w3 p2
  have O3 := p2.1
  have D3 := p2.below B2a (by omega) O2a.own_ge
  have z3 := D3.size
  go_wp2_with fail
  rw [rounds_succ]
  go_wp2_with fail
  refine (wBytes_any (se % 4294967296) 4 _ (by omega) (by omega) (by decide)).mono ?_
  rintro e w3a ⟨v3a, rfl, o3a, b3a⟩
  have z3a := b3a.size
  have O3a := O3.below b3a
  have B3a := D3.trans (b3a.mono (by omega))
  go_wp2_with (refine list_app rfl (.tmp 27) (.tmp 31) rfl (w.heap.size + 1) _ v3a _ (leB (se % 4294967296) 4) rfl O3a rfl o3a.rd (by simp [leB_length]) (by omega) ?_)
  intro v4 w4 p3
  have O4 := p3.1
  have D4 := p3.below B3a (by omega) O3a.own_ge
  have z4 := D4.size
  go_wp2_with fail
  rw [rounds_succ]
  go_wp2_with fail
  refine (wBytes_any (er % 4294967296) 4 _ (by omega) (by omega) (by decide)).mono ?_
  rintro e w4a ⟨v4a, rfl, o4a, b4a⟩
  have z4a := b4a.size
  have O4a := O4.below b4a
  have B4a := D4.trans (b4a.mono (by omega))
  go_wp2_with (refine list_app rfl (.tmp 27) (.tmp 31) rfl (w.heap.size + 1) _ v4a _ (leB (er % 4294967296) 4) rfl O4a rfl o4a.rd (by simp [leB_length]) (by omega) ?_)
  intro v5 w5 p4
  have O5 := p4.1
  have D5 := p4.below B4a (by omega) O4a.own_ge
  have z5 := D5.size
  have g4 := f4
  have g5 := f5
  rw [← D5.cell (p := ⟨w.heap.size, 4, none⟩) (by simp)] at g4
  rw [← D5.cell (p := ⟨w.heap.size, 5, none⟩) (by simp)] at g5
  obtain ⟨y0, y1⟩ := ix2 (.int .i64 co) (.int .i64 cl)
  go_wp2_with fail
  rw [rounds_succ]
  go_wp2_with fail
  refine wp_loop_rounds 3 ?_
  rw [rounds_succ]
  go_wp2_with fail
  refine (wBytes_any (co % 18446744073709551616) 8 _ (by omega) (by omega) (by decide)).mono ?_
  rintro e w5a ⟨v5a, rfl, o5a, b5a⟩
  have z5a := b5a.size
  have O5a := O5.below b5a
  have B5a := D5.trans (b5a.mono (by omega))
  go_wp2_with (refine list_app rfl (.tmp 42) (.tmp 45) rfl (w.heap.size + 1) _ v5a _ (leB (co % 18446744073709551616) 8) rfl O5a rfl o5a.rd (by simp [leB_length]) (by omega) ?_)
  intro v6 w6 p5
  have O6 := p5.1
  have D6 := p5.below B5a (by omega) O5a.own_ge
  have z6 := D6.size
  go_wp2_with fail
  rw [rounds_succ]
  go_wp2_with fail
  refine (wBytes_any (cl % 18446744073709551616) 8 _ (by omega) (by omega) (by decide)).mono ?_
  rintro e w6a ⟨v6a, rfl, o6a, b6a⟩
  have z6a := b6a.size
  have O6a := O6.below b6a
  have B6a := D6.trans (b6a.mono (by omega))
  go_wp2_with (refine list_app rfl (.tmp 42) (.tmp 45) rfl (w.heap.size + 1) _ v6a _ (leB (cl % 18446744073709551616) 8) rfl O6a rfl o6a.rd (by simp [leB_length]) (by omega) ?_)
  intro v7 w7 p6
  have O7 := p6.1
  have D7 := p6.below B6a (by omega) O6a.own_ge
  have z7 := D7.size
  go_wp2_with fail
  rw [rounds_succ]
  go_wp2
  go_ret2
  refine ⟨v7, by rw [HV.out]; rfl, ?_, b1.trans (D7.mono (by omega))⟩
  rw [HL.out]
  exact OwB.mono O7 (by omega)
end Go.Proofs.Ytkbjbpaeoopkfaa
