/- Contracts of sched.World's tick and of every Pick. Conditions: no machine is told the clock. -/
import Derived.Test.YtpicplkbblmbeaaGreatSk
namespace Go.Proofs.YtpicplkbblmbeaaGreat
set_option maxRecDepth 100000
open Go.RowKit
set_option linter.unusedVariables false
set_option linter.unusedSimpArgs false
/-- No machine of the family is told the clock. -/
def Untimed (C : Fam) : Prop := ∀ s b w, (Instr.typeAssert (.iface (C.ty s) (.pointer (some ⟨b, 0, none⟩))) 163 229 true).run Tryz.prog w = .ok (.tuple #[.nilIface, .bool false]) w
theorem nilUntimed (w : World) : (Instr.typeAssert .nilIface 163 229 true).run Tryz.prog w = .ok (.tuple #[.nilIface, .bool false]) w := by kernel_rfl
/-- The clock has gone on. -/
theorem WoIn.clock {C : Fam} {w : World} {κ : Nat → Kd} {W p c : Nat} {av tv : Value} {ab : Nat → Nat} {S : SW C.M.σ} (h : WoIn C w κ W p c av tv ab S) (x : Int) : WoIn C (w.setCell ⟨W, 2, none⟩ (.int .i64 x)) κ W p c av tv ab { S with clk := x } := by
  have k : Keep (· = W) w (w.setCell ⟨W, 2, none⟩ (.int .i64 x)) := Keep.setCell (M := (· = W)) (Keep.refl _ _) (p := ⟨W, 2, none⟩) (.inl rfl) _
  have ne : ∀ i, κ i ≠ .wo → ¬ i = W := fun i hi e => hi (e ▸ h.kW)
  refine ⟨h.hd.set 2 _, h.kW, h.buf.keep k (ne _ (by rw [h.kp]; nofun)) (ne _ (by rw [h.kc]; nofun)), h.kp, h.kc, ?_, ?_, h.tr.keep k (fun i hi => ne _ (by rcases hi with hi | hi <;> rw [hi] <;> nofun)) (fun _ _ => rfl), fun j hj => Nat.lt_of_lt_of_le (h.all j hj) k.size⟩
  · refine h.row.imp id ?_
    rintro ⟨g, cap, e1, e2, e3, e4, e5⟩
    exact ⟨g, cap, e1, e2, e3, e4, fun j hj => (k.cell _ (h.all g (by rw [e4]; nofun)) (ne _ (by rw [e4]; nofun))).trans (e5 j hj)⟩
  · intro i a hi
    obtain ⟨e, hA⟩ := h.act i a hi
    exact ⟨e, hA.keep k (fun l hl => ne _ (by rw [hl]; nofun)) (ne _ (by rw [e]; nofun))⟩
set_option maxHeartbeats 1000000 in
theorem wTick_bad (W : Nat) (n : Int) (w : World) (hn : n < 0 ∨ 1099511627776 < n) :
    Calls Tryz.prog 89 #[.pointer (some ⟨W, 0, none⟩), .int .i64 n] w fun e w' => e = .returned (.int .i64 1) ∧ w = w' := by
  by_cases h0 : n < 0
  · clear hn
    go_enter Tryz.func89, Tryz.ntmps89
    go_wp2
    go_ret
    exact ⟨rfl, rfl⟩
  · have h1 : 1099511627776 < n := by omega
    clear hn
    go_enter Tryz.func89, Tryz.ntmps89
    go_wp2
    go_ret
    exact ⟨rfl, rfl⟩
set_option maxHeartbeats 1000000 in
theorem wTick_row {C : Fam} (hU : Untimed C) {w : World} {κ : Nat → Kd} {W p c : Nat} {av tv : Value} {ab : Nat → Nat} {S : SW C.M.σ} (h : WoIn C w κ W p c av tv ab S) (n : Int) (h0 : 0 ≤ n) (h1 : n ≤ 1099511627776) (hk0 : 0 ≤ S.clk) (hk1 : S.clk ≤ 4611686018427387904) (g gc : Nat) (hav : av = .slice (some ⟨g, 0, none⟩) S.acts.length gc) :
    Calls Tryz.prog 89 #[.pointer (some ⟨W, 0, none⟩), .int .i64 n] w fun e w' => e = .returned (.int .i64 0) ∧ WoIn C w' κ W p c av tv ab { S with clk := S.clk + n } ∧ Keep (· = W) w w' := by
  subst hav
  have hlen : S.acts.length ≤ maxLen := by obtain ⟨_, _, _, h⟩ := h.avSl; exact h
  unfold maxLen at hlen
  have H := Lib.hid (h.clock (S.clk + n))
  obtain ⟨c0, c1, c2, c3⟩ := h.cells
  have f2 := h.hd.frozen 2
  have hrows : ∀ j, j < S.acts.length → (w.setCell ⟨W, 2, none⟩ (.int .i64 (S.clk + n))).cell? ⟨g, j, none⟩ = some (.pointer (some ⟨ab j, 0, none⟩)) := by
    intro j hj
    obtain ⟨g', cap, e, _, _, _, hc⟩ := H.out.rowAt (n := j) hj
    have eg : g' = g := by cases e; rfl
    subst eg
    exact hc j hj
  have HR := Lib.hid hrows
  have HU := Lib.hid hU
  have hw64 : IntKind.i64.wrap (S.clk + n) = S.clk + n := IntWalk.i64_in _ ⟨by omega, by omega⟩
  clear h hrows hU
  go_enter Tryz.func89, Tryz.ntmps89
  go_wp2_with fail
  obtain ⟨w1, hw1⟩ : ∃ w1, w1 = w.setCell ⟨W, 2, none⟩ (.int .i64 (S.clk + n)) := ⟨_, rfl⟩
  have K1 : Keep (· = W) w w1 := by rw [hw1]; exact Keep.setCell (M := (· = W)) (Keep.refl _ _) (p := ⟨W, 2, none⟩) (.inl rfl) _
  rw [← hw1] at H HR ⊢
  clear hw1 c0 c1 c2 c3 f2 hw64
  go_loopw [32] (fun i wr => ∃ k : Nat, k ≤ S.acts.length ∧ i = .int .i64 k ∧ wr = w1) (fun i _ => S.acts.length - (intOf i).toNat)
  case atStart => exact ⟨0, by omega, rfl, rfl⟩
  case round =>
    obtain ⟨k, hk, rfl, rfl⟩ := hrel
    by_cases hlt : k < S.acts.length
    · have hc := HR.out k hlt
      obtain ⟨a, ha⟩ : ∃ a, S.acts[k]? = some a := ⟨_, List.getElem?_eq_getElem hlt⟩
      obtain ⟨hka, mv, hb, hm⟩ := H.out.act k a ha
      have y0 := hb.cell 0
      simp only [List.getElem?_cons_zero] at y0
      have key : ∀ w, (Instr.typeAssert mv 163 229 true).run Tryz.prog w = .ok (.tuple #[.nilIface, .bool false]) w := by
        cases hm' : a.m with
        | none =>
          rw [hm'] at hm
          obtain rfl : mv = .nilIface := hm
          exact nilUntimed
        | some s =>
          rw [hm'] at hm
          obtain ⟨q, rfl, _⟩ := hm
          exact HU.out s q
      have hform : mv = .nilIface ∨ ∃ T v, mv = .iface T v := by
        cases hm' : a.m with
        | none =>
          rw [hm'] at hm
          exact .inl hm
        | some s =>
          rw [hm'] at hm
          obtain ⟨q, e, _⟩ := hm
          exact .inr ⟨_, _, e⟩
      clear hb hm hka
      rcases hform with rfl | ⟨T, v, rfl⟩
      · go_wp2
        exact ⟨⟨k + 1, by omega, by go_num, by trivial⟩, by simp [intOf]; omega⟩
      · go_wp2
        exact ⟨⟨k + 1, by omega, by go_num, by trivial⟩, by simp [intOf]; omega⟩
    · go_wp2
      go_ret
      exact ⟨rfl, H.out, K1⟩
set_option maxHeartbeats 1000000 in
theorem wTick_none {C : Fam} {w : World} {κ : Nat → Kd} {W p c : Nat} {av tv : Value} {ab : Nat → Nat} {S : SW C.M.σ} (h : WoIn C w κ W p c av tv ab S) (n : Int) (h0 : 0 ≤ n) (h1 : n ≤ 1099511627776) (hk0 : 0 ≤ S.clk) (hk1 : S.clk ≤ 4611686018427387904) (hl : S.acts.length = 0) :
    Calls Tryz.prog 89 #[.pointer (some ⟨W, 0, none⟩), .int .i64 n] w fun e w' => e = .returned (.int .i64 0) ∧ WoIn C w' κ W p c av tv ab { S with clk := S.clk + n } ∧ Keep (· = W) w w' := by
  have H := Lib.hid (h.clock (S.clk + n))
  obtain ⟨c0, c1, c2, c3⟩ := h.cells
  obtain ⟨a, cap, rfl, _⟩ := h.avSl
  rw [hl] at c1
  have f2 := h.hd.frozen 2
  have K1 : Keep (· = W) w (w.setCell ⟨W, 2, none⟩ (.int .i64 (S.clk + n))) := Keep.setCell (M := (· = W)) (Keep.refl _ _) (p := ⟨W, 2, none⟩) (.inl rfl) _
  have hw64 : IntKind.i64.wrap (S.clk + n) = S.clk + n := IntWalk.i64_in _ ⟨by omega, by omega⟩
  clear h
  go_enter Tryz.func89, Tryz.ntmps89
  go_wp2_with fail
  refine wp_loop_rounds 1 ?_
  rw [rounds_succ]
  go_wp2
  go_ret
  exact ⟨rfl, H.out, K1⟩
theorem wTick_any {C : Fam} (hU : Untimed C) {w : World} {κ : Nat → Kd} {W p c : Nat} {av tv : Value} {ab : Nat → Nat} {S : SW C.M.σ} (h : WoIn C w κ W p c av tv ab S) (n : Int) (h0 : 0 ≤ n) (h1 : n ≤ 1099511627776) (hk0 : 0 ≤ S.clk) (hk1 : S.clk ≤ 4611686018427387904) :
    Calls Tryz.prog 89 #[.pointer (some ⟨W, 0, none⟩), .int .i64 n] w fun e w' => e = .returned (.int .i64 0) ∧ WoIn C w' κ W p c av tv ab { S with clk := S.clk + n } ∧ Keep (· = W) w w' := by
  by_cases hl : S.acts.length = 0
  · exact wTick_none h n h0 h1 hk0 hk1 hl
  · obtain ⟨g, cap, e, _⟩ := h.rowAt (n := 0) (by omega)
    exact wTick_row hU h n h0 h1 hk0 hk1 g cap e
end Go.Proofs.YtpicplkbblmbeaaGreat
