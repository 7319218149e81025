/- Contract of slices.Clone at bytes. Conditions: fewer than 2^46 bytes. -/
import Derived.Test.YtknahaaefmlcpaaGreatKi
import Derived.Test.YtknahaaefmlcpaaGreatKc
namespace Go.Proofs.YtknahaaefmlcpaaGreat
set_option maxRecDepth 100000
open Go.RowKit
set_option linter.unusedVariables false
set_option linter.unusedSimpArgs false
theorem qSl (w : World) (a : Option Addr) (n c n' c' : Nat) : (binOp .eql 22 (.slice a n c) (.slice none n' c')).run Tryz.prog w = .ok (.bool a.isNone) w := Lib.run_eql_slice_nil w _ _ a n c n' c' Tryz.underlying22
theorem own_empty (w : World) (g : Nat) (T B : Nat) (cs : Array Value) (h : w.heap[g]? = some (.cells #[] T (0, 0))) (hB : B ≤ g) : OwB T B w (.slice (some ⟨g, 0, none⟩) 0 0) [] := by
 refine ⟨by simp, .inr ⟨g, 0, #[], rfl, hB, h, Nat.le_refl _, by unfold maxLen; omega, by simp, by simp⟩⟩
set_option maxHeartbeats 1000000 in
theorem clone_any (v : Value) (l : List Int) (w : World) (h : RdB w v l) (hl : l.length ≤ 70368744177664) :
  Calls Tryz.prog 60 #[v] w fun e w' => ∃ s, e = .returned s ∧ OwB 5 w.heap.size w' s l ∧ Below w.heap.size w w' := by
 have q := qSl
 have H := Lib.hid h
 have HL := Lib.hid hl
 rcases h with ⟨rfl, rfl⟩ | ⟨a, cap, rfl, rfl, hm⟩ | ⟨b, off, cap, rfl, hc, hm, hcell⟩
 ·go_enter Tryz.func60, Tryz.ntmps60
  go_wp2
  go_ret
  exact ⟨_, rfl, OwB.nil _ _ _, Below.refl _ _⟩
 ·go_enter Tryz.func60, Tryz.ntmps60
  go_wp2_with (refine list_app rfl (.tmp 5) (.tmp 6) rfl w.heap.size _ _ [] [] rfl (own_empty (w.alloc (.cells #[] 5)) w.heap.size _ _ #[] (MapKept.heap_alloc w _).1 (Nat.le_refl _)) rfl (RdB.below H.out ((Below.refl _ _).alloc (Nat.le_refl _) _)) (by simp) (by simp) ?_)
  intro v' w' p
  go_wp2
  go_ret
  exact ⟨_, rfl, p.1, p.below ((Below.refl _ _).alloc (Nat.le_refl _) _) (by simp) (by intro k hk; cases hk; exact Nat.le_refl _)⟩
 ·clear hcell
  go_enter Tryz.func60, Tryz.ntmps60
  go_wp2_with (refine list_app rfl (.tmp 5) (.tmp 6) rfl w.heap.size _ _ [] l rfl (own_empty (w.alloc (.cells #[] 5)) w.heap.size _ _ #[] (MapKept.heap_alloc w _).1 (Nat.le_refl _)) rfl (RdB.below H.out ((Below.refl _ _).alloc (Nat.le_refl _) _)) (by simp; omega) (by simp) ?_)
  intro v' w' p
  go_wp2
  go_ret
  exact ⟨_, rfl, p.1, p.below ((Below.refl _ _).alloc (Nat.le_refl _) _) (by simp) (by intro k hk; cases hk; exact Nat.le_refl _)⟩
end Go.Proofs.YtknahaaefmlcpaaGreat
