/- Contract of the reference's Bytes of a command. Conditions: the fields are in their kinds' ranges. -/
import Derived.Test.YtkbjbpaeoopkfaaCm
namespace Go.Proofs.Ytkbjbpaeoopkfaa
set_option maxRecDepth 100000
open Go.RowKit
set_option linter.unusedVariables false
theorem two_cells {w w1 : World} {cs ds : Array Value} {t u : TypeId} (h : Below (w.heap.size + 2) ((w.alloc (.cells cs t)).alloc (.cells ds u)) w1) (i : Nat) :
    w1.cell? ⟨w.heap.size, i, none⟩ = cs[i]? ∧ w1.cell? ⟨w.heap.size + 1, i, none⟩ = ds[i]? := by
  constructor
  · rw [h.cell (p := ⟨w.heap.size, i, none⟩) (by simp), World.cell?, Below.heap_alloc _ _ _ (by simp), (MapKept.heap_alloc w _).1]
    rfl
  · have e := (MapKept.heap_alloc (w.alloc (.cells cs t)) (.cells ds u)).1
    rw [h.cell (p := ⟨w.heap.size + 1, i, none⟩) (by simp), World.cell?]
    simp only [show (w.alloc (.cells cs t)).heap.size = w.heap.size + 1 by simp] at e
    rw [e]
    rfl
theorem wu_eq (x : Int) : IntKind.u64.wrap x = x % 18446744073709551616 := by
  unfold IntKind.wrap
  simp [IntKind.signed, IntKind.bits]
theorem wu (x : Int) : 0 ≤ IntKind.u64.wrap x ∧ IntKind.u64.wrap x ≤ 18446744073709551615 := by
  rw [wu_eq]
  omega
set_option maxHeartbeats 1000000 in
theorem refCoBytes_any (k st se er co cl : Int) (w : World) (a1 : -2147483648 ≤ k) (a2 : k ≤ 2147483647) (a3 : -2147483648 ≤ st) (a4 : st ≤ 2147483647) (a5 : -2147483648 ≤ se) (a6 : se ≤ 2147483647) (a7 : -2147483648 ≤ er) (a8 : er ≤ 2147483647) :
    Calls Try.prog 23 #[.agg #[.int .i32 k, .int .i32 st, .int .i32 se, .int .i32 er, .int .i64 co, .int .i64 cl]] w fun e w' => ∃ v, e = .returned v ∧ OwB 5 w.heap.size w' v (coL k st se er co cl) ∧ Below w.heap.size w w' := by
  go_enter Try.func23, Try.ntmps23
  go_wp2_with fail
  refine wp_loop_rounds 5 ?_
  rw [rounds_succ]
  go_wp2_with fail
  refine (refBytes_any (IntKind.u64.wrap k) 4 _ (wu _).1 (wu _).2 (by decide)).mono ?_
  rintro e w1a ⟨v1a, rfl, o1a, b1a⟩
  have O1a : OwB 5 (w.heap.size + 2) w1a (.slice none 0 0) [] := OwB.nil _ _ _
  have z1a := b1a.size
  simp at z1a
  have D1a := b1a.mono (B' := w.heap.size + 2) (by simp)
  go_wp2_with (refine list_app rfl (.tmp 20) (.tmp 24) rfl (w.heap.size + 2) _ v1a _ (leB (IntKind.u64.wrap k) 4) rfl O1a rfl o1a.rd (by simp [leB_length]) (by omega) ?_)
  intro v2 w2 p1
  have O2 := p1.1
  have D2 := p1.below D1a (by omega) O1a.own_ge
  have z2 : w.heap.size + 2 ≤ w2.heap.size := by
    have := D2.size
    simp at this
    omega
  have q2 := (two_cells D2 1).2
  simp only [List.getElem?_toArray, List.getElem?_cons_zero, List.getElem?_cons_succ] at q2
  go_wp2_with fail
  rw [rounds_succ]
  go_wp2_with fail
  refine (refBytes_any (IntKind.u64.wrap st) 4 _ (wu _).1 (wu _).2 (by decide)).mono ?_
  rintro e w2a ⟨v2a, rfl, o2a, b2a⟩
  have z2a := b2a.size
  have O2a := O2.below b2a
  have D2a := D2.trans (b2a.mono z2)
  go_wp2_with (refine list_app rfl (.tmp 20) (.tmp 24) rfl (w.heap.size + 2) _ v2a _ (leB (IntKind.u64.wrap st) 4) rfl O2a rfl o2a.rd (by simp [leB_length]) (by omega) ?_)
  intro v3 w3 p2
  have O3 := p2.1
  have D3 := p2.below D2a (by omega) O2a.own_ge
  have z3 : w.heap.size + 2 ≤ w3.heap.size := by
    have := D3.size
    simp at this
    omega
  have q3 := (two_cells D3 2).2
  simp only [List.getElem?_toArray, List.getElem?_cons_zero, List.getElem?_cons_succ] at q3
  go_wp2_with fail
  rw [rounds_succ]
  go_wp2_with fail
  refine (refBytes_any (IntKind.u64.wrap se) 4 _ (wu _).1 (wu _).2 (by decide)).mono ?_
  rintro e w3a ⟨v3a, rfl, o3a, b3a⟩
  have z3a := b3a.size
  have O3a := O3.below b3a
  have D3a := D3.trans (b3a.mono z3)
  go_wp2_with (refine list_app rfl (.tmp 20) (.tmp 24) rfl (w.heap.size + 2) _ v3a _ (leB (IntKind.u64.wrap se) 4) rfl O3a rfl o3a.rd (by simp [leB_length]) (by omega) ?_)
  intro v4 w4 p3
  have O4 := p3.1
  have D4 := p3.below D3a (by omega) O3a.own_ge
  have z4 : w.heap.size + 2 ≤ w4.heap.size := by
    have := D4.size
    simp at this
    omega
  have q4 := (two_cells D4 3).2
  simp only [List.getElem?_toArray, List.getElem?_cons_zero, List.getElem?_cons_succ] at q4
  go_wp2_with fail
  rw [rounds_succ]
  go_wp2_with fail
  refine (refBytes_any (IntKind.u64.wrap er) 4 _ (wu _).1 (wu _).2 (by decide)).mono ?_
  rintro e w4a ⟨v4a, rfl, o4a, b4a⟩
  have z4a := b4a.size
  have O4a := O4.below b4a
  have D4a := D4.trans (b4a.mono z4)
  go_wp2_with (refine list_app rfl (.tmp 20) (.tmp 24) rfl (w.heap.size + 2) _ v4a _ (leB (IntKind.u64.wrap er) 4) rfl O4a rfl o4a.rd (by simp [leB_length]) (by omega) ?_)
  intro v5 w5 p4
  have O5 := p4.1
  have D5 := p4.below D4a (by omega) O4a.own_ge
  have z5 : w.heap.size + 2 ≤ w5.heap.size := by
    have := D5.size
    simp at this
    omega
  have q5 := (two_cells D5 4).1
  simp only [List.getElem?_toArray, List.getElem?_cons_zero, List.getElem?_cons_succ] at q5
  go_wp2_with fail
  rw [rounds_succ]
  go_wp2_with fail
  refine (refBytes_any (IntKind.u64.wrap co) 8 _ (wu _).1 (wu _).2 (by decide)).mono ?_
  rintro e w5a ⟨v5a, rfl, o5a, b5a⟩
  have z5a := b5a.size
  have O5a := O5.below b5a
  have D5a := D5.trans (b5a.mono z5)
  go_wp2_with (refine list_app rfl (.tmp 27) (.tmp 31) rfl (w.heap.size + 2) _ v5a _ (leB (IntKind.u64.wrap co) 8) rfl O5a rfl o5a.rd (by simp [leB_length]) (by omega) ?_)
  intro v6 w6 p5
  have O6 := p5.1
  have D6 := p5.below D5a (by omega) O5a.own_ge
  have z6 : w.heap.size + 2 ≤ w6.heap.size := by
    have := D6.size
    simp at this
    omega
  have q6 := (two_cells D6 5).1
  simp only [List.getElem?_toArray, List.getElem?_cons_zero, List.getElem?_cons_succ] at q6
  go_wp2_with fail
  refine (refBytes_any (IntKind.u64.wrap cl) 8 _ (wu _).1 (wu _).2 (by decide)).mono ?_
  rintro e w6a ⟨v6a, rfl, o6a, b6a⟩
  have z6a := b6a.size
  have O6a := O6.below b6a
  have D6a := D6.trans (b6a.mono z6)
  go_wp2_with (refine list_app rfl (.tmp 33) (.tmp 37) rfl (w.heap.size + 2) _ v6a _ (leB (IntKind.u64.wrap cl) 8) rfl O6a rfl o6a.rd (by simp [leB_length]) (by omega) ?_)
  intro v7 w7 p6
  have O7 := p6.1
  have D7 := p6.below D6a (by omega) O6a.own_ge
  have z7 : w.heap.size + 2 ≤ w7.heap.size := by
    have := D7.size
    simp at this
    omega
  go_wp2
  go_ret
  refine ⟨v7, rfl, ?_, ?_⟩
  · have O := OwB.mono O7 (show w.heap.size ≤ w.heap.size + 2 by omega)
    simp only [wu_eq, leB_32] at O
    exact O
  · exact (((Below.refl w.heap.size w).alloc (Nat.le_refl _) _).alloc (by simp) _).trans (D7.mono (by omega))
end Go.Proofs.Ytkbjbpaeoopkfaa
