/- Contracts of sched.World's Dead, Silence, Ended, Clock. Conditions: as each says. -/
import Derived.Test.YtknahaaefmlcpaaSn
namespace Go.Proofs.Ytknahaaefmlcpaa
set_option maxRecDepth 100000
open Go.RowKit
set_option linter.unusedVariables false
set_option linter.unusedSimpArgs false
/-- The actor at a place, if there is one. -/
def SW.at {σ : Type} (S : SW σ) (i : Int) : Option (Ac σ) := if i < 0 then none else S.acts[i.toNat]?
def SW.dead {σ : Type} (S : SW σ) (i : Int) : Bool := match S.at i with
  | none => false
  | some a => a.dead
def Mac.ended (M : Mac) (S : SW M.σ) (i : Int) : Bool := match S.at i with
  | none => false
  | some a => !M.lives a
def SW.silence {σ : Type} (S : SW σ) (i : Int) : SW σ := match S.at i with
  | none => S
  | some a => { S with acts := S.acts.set i.toNat ⟨a.m, true⟩ }
theorem SW.at_none {σ : Type} {S : SW σ} {i : Int} (h : i < 0 ∨ (S.acts.length : Int) ≤ i) : S.at i = none := by
  unfold SW.at
  split
  · rfl
  · exact List.getElem?_eq_none (by omega)
theorem SW.at_some {σ : Type} {S : SW σ} {i : Int} (h0 : ¬ (i < 0 ∨ (S.acts.length : Int) ≤ i)) : ∃ n a, i = ((n : Nat) : Int) ∧ n < S.acts.length ∧ S.acts[n]? = some a ∧ S.at i = some a := by
  obtain ⟨n, rfl⟩ := Int.eq_ofNat_of_zero_le (show 0 ≤ i by omega)
  have hn : n < S.acts.length := by omega
  refine ⟨n, S.acts[n], rfl, hn, List.getElem?_eq_getElem hn, ?_⟩
  unfold SW.at
  rw [if_neg (by omega), Int.toNat_natCast]
  exact List.getElem?_eq_getElem hn
theorem qPn (w : World) (a : Addr) : (binOp .neq 100 (.pointer (some a)) (.pointer none)).run Try.prog w = .ok (.bool true) w := by kernel_rfl
set_option maxHeartbeats 400000 in
theorem wDead_any {C : Fam} {w : World} {κ : Nat → Kd} {W p c : Nat} {av tv : Value} {ab : Nat → Nat} {S : SW C.M.σ} (h : WoIn C w κ W p c av tv ab S) (i : Int) :
    Calls Try.prog 18 #[.pointer (some ⟨W, 0, none⟩), .int .i64 i] w fun e w' => e = .returned (.bool (S.dead i)) ∧ w = w' := by
  by_cases hr : i < 0 ∨ (S.acts.length : Int) ≤ i
  · have e : S.dead i = false := by unfold SW.dead; rw [SW.at_none hr]
    rw [e]
    have H := Lib.hid h
    have HR := Lib.hid hr
    clear h hr e
    go_enter Try.func18, Try.ntmps18
    go_wp2_with fail
    refine (wAt_none H.out i HR.out).mono ?_
    rintro e w' ⟨rfl, rfl⟩
    go_wp2
    go_ret
    exact ⟨rfl, rfl⟩
  · obtain ⟨n, a, rfl, hn, ha, hat⟩ := SW.at_some hr
    have e : S.dead n = a.dead := by unfold SW.dead; rw [hat]
    rw [e]
    have H := Lib.hid h
    obtain ⟨_, mv, hb, _⟩ := h.act n a ha
    have y1 := hb.cell 1
    simp only [List.getElem?_cons_zero, List.getElem?_cons_succ] at y1
    clear h hr e hb
    go_enter Try.func18, Try.ntmps18
    go_wp2_with fail
    refine (wAt_some H.out n hn).mono ?_
    rintro e w' ⟨rfl, rfl⟩
    go_wp2
    go_ret
    exact ⟨rfl, rfl⟩
set_option maxHeartbeats 400000 in
theorem wEnded_any {C : Fam} {w : World} {κ : Nat → Kd} {W p c : Nat} {av tv : Value} {ab : Nat → Nat} {S : SW C.M.σ} (h : WoIn C w κ W p c av tv ab S) (i : Int) :
    Calls Try.prog 19 #[.pointer (some ⟨W, 0, none⟩), .int .i64 i] w fun e w' => e = .returned (.bool (C.M.ended S i)) ∧ Below w.heap.size w w' := by
  by_cases hr : i < 0 ∨ (S.acts.length : Int) ≤ i
  · have e : C.M.ended S i = false := by unfold Mac.ended; rw [SW.at_none hr]
    rw [e]
    have H := Lib.hid h
    have HR := Lib.hid hr
    clear h hr e
    go_enter Try.func19, Try.ntmps19
    go_wp2_with fail
    refine (wAt_none H.out i HR.out).mono ?_
    rintro e w' ⟨rfl, rfl⟩
    go_wp2
    go_ret
    exact ⟨rfl, Below.refl _ _⟩
  · obtain ⟨n, a, rfl, hn, ha, hat⟩ := SW.at_some hr
    have e : C.M.ended S n = !C.M.lives a := by unfold Mac.ended; rw [hat]
    rw [e]
    have H := Lib.hid h
    have KEY := Lib.hid (aNext_any (h.act n a ha).2)
    clear h hr e
    go_enter Try.func19, Try.ntmps19
    go_wp2_with fail
    refine (wAt_some H.out n hn).mono ?_
    rintro e w' ⟨rfl, rfl⟩
    go_wp2_with fail
    refine KEY.out.mono ?_
    rintro e w1 ⟨x, s0, sl, sc, rfl, b⟩
    unfold AA.V
    dsimp only
    go_wp2
    go_ret
    exact ⟨rfl, b.alloc b.size _⟩
theorem wClock_any {C : Fam} {w : World} {κ : Nat → Kd} {W p c : Nat} {av tv : Value} {ab : Nat → Nat} {S : SW C.M.σ} (h : WoIn C w κ W p c av tv ab S) :
    Calls Try.prog 14 #[.pointer (some ⟨W, 0, none⟩)] w fun e w' => e = .returned (.int .i64 S.clk) ∧ w = w' := by
  obtain ⟨c0, c1, c2, c3⟩ := h.cells
  clear h
  go_enter Try.func14, Try.ntmps14
  go_wp2
  go_ret
  exact ⟨rfl, rfl⟩
end Go.Proofs.Ytknahaaefmlcpaa
