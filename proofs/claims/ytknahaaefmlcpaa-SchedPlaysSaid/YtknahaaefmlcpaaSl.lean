/- The copies as a family of machines. Conditions: as Fine says. -/
import Derived.Test.YtknahaaefmlcpaaSb
import Derived.Test.YtknahaaefmlcpaaKz
namespace Go.Proofs.Ytknahaaefmlcpaa
set_option maxRecDepth 100000
open Go.RowKit
set_option linter.unusedVariables false
structure CpM.Fine (m : CpM) : Prop where
  lb : IsB m.l
  ll : m.l.length ≤ 131072
  nn : m.n ≤ 131072
  hv : m.hv.length + m.n ≤ 1000000
  a0 : -1000000 ≤ m.a
  a1 : m.a + 8 * m.l.length + m.n ≤ 9000000
def CpM.want (m : CpM) : AA := ⟨m.ak, m.aa, m.an, 0, 0, m.ab⟩
theorem CpM.Fine.step {m : CpM} (h : m.Fine) (hl : m.live = true) {x : AN} (hx : AN.ok m.want x) : (m.step x.b).Fine := by
  obtain ⟨h1, h2, h3, h4, h5, h6⟩ := h
  obtain ⟨wr, a, l, n, hv⟩ := m
  dsimp only at h1 h2 h3 h4 h5 h6
  cases wr with
  | true =>
    simp only [CpM.live, if_true, decide_eq_true_eq] at hl
    have e : CpM.step ⟨true, a, l, n, hv⟩ x.b = ⟨true, a + 8, l.drop 8, n, hv⟩ := by simp [CpM.step, CpM.live, hl]
    rw [e]
    have hd : (l.drop 8).length = l.length - 8 := by simp
    exact ⟨h1.drop 8, by dsimp only; omega, h3, h4, by dsimp only; omega, by dsimp only; omega⟩
  | false =>
    simp only [CpM.live, Bool.false_eq_true, if_false, decide_eq_true_eq] at hl
    have e : CpM.step ⟨false, a, l, n, hv⟩ x.b = ⟨false, a + (min n 8 : Nat), l, n - min n 8, hv ++ x.b⟩ := by simp [CpM.step, CpM.live, hl]
    rw [e]
    have hk : (CpM.want ⟨false, a, l, n, hv⟩).k = 5 := by simp [CpM.want, CpM.ak, CpM.live, hl]
    have hn : (CpM.want ⟨false, a, l, n, hv⟩).n = min (n : Int) 8 := by simp [CpM.want, CpM.an, CpM.live, hl]
    have hb := hx.rd hk
    rw [hn] at hb
    refine ⟨h1, h2, by dsimp only; omega, ?_, by dsimp only; omega, by dsimp only; omega⟩
    simp only [List.length_append]
    omega
def cpMac : Mac := ⟨CpM, CpM.live, CpM.want, fun m x => m.step x.b⟩
theorem cpM_next (b : Nat) (w : World) : (method (Try.prog.types.size + Made.depth) 84 (.pointer (some ⟨b, 0, none⟩)) "Next").run Try.prog w = .ok (144, .pointer (some ⟨b, 0, none⟩)) w := by kernel_rfl
theorem cpM_take (b : Nat) (w : World) : (method (Try.prog.types.size + Made.depth) 84 (.pointer (some ⟨b, 0, none⟩)) "Take").run Try.prog w = .ok (145, .pointer (some ⟨b, 0, none⟩)) w := by kernel_rfl
theorem enCpN (args : Array Value) (w : World) : (callFunc 144 args).run Try.prog w = .ok (.enter 144 args) w :=
  enters_of Try.func144 (by kernel_rfl) rfl args w
theorem enCpT (args : Array Value) (w : World) : (callFunc 145 args).run Try.prog w = .ok (.enter 145 args) w :=
  enters_of Try.func145 (by kernel_rfl) rfl args w
theorem Cp.mono {w : World} {F F' : Nat → Prop} {q : Nat} {m : CpM} (h : Cp w F q m) (h1 : ∀ i, F i → F' i) (h2 : ∀ i, F' i → i < w.heap.size) : Cp w F' q m := by
  obtain ⟨a1, a2, a3⟩ := h
  refine ⟨h1 q a1, h2, ?_⟩
  rcases a3 with ⟨e, e2, O, hO, hs⟩ | ⟨e, O, R, hO, hR, hs⟩
  · exact .inl ⟨e, e2, O, fun i hi => ⟨h1 i (hO i hi).1, (hO i hi).2⟩, hs⟩
  · exact .inr ⟨e, O, R, fun i hi => ⟨h1 i (hO i hi).1, (hO i hi).2⟩, fun i hi => ⟨h1 i (hR i hi).1, (hR i hi).2⟩, hs⟩
def cpFam : Fam where
  M := cpMac
  inv := fun w F q m => Cp w F q m ∧ CpM.Fine m
  ty := fun _ => 84
  fn := fun _ => 144
  ft := fun _ => 145
  mn := fun _ b w => cpM_next b w
  mt := fun _ b w => cpM_take b w
  en := fun _ args w => enCpN args w
  et := fun _ args w => enCpT args w
  ts := fun _ _ => rfl
  dom := fun h => ⟨h.1.1, h.1.2.1⟩
  mono := fun h h1 h2 => ⟨h.1.mono h1 h2, h.2⟩
  keep := fun h k hd => ⟨h.1.keep k hd, h.2⟩
  wf := fun {w F q m} h => by
    have hb : m.want.b = m.ab := rfl
    refine ⟨?_, ?_, Int.le_refl 0, (by show (0 : Int) ≤ _; omega), Int.le_refl 0, (by show (0 : Int) ≤ _; omega)⟩
    · show IsB m.ab
      unfold CpM.ab
      split
      · exact h.2.lb.take 8
      · exact IsB.nil
    · show m.ab.length ≤ 1000000
      unfold CpM.ab
      split
      · simp
        omega
      · simp
  next := fun {w F q m} h => by
    refine (cp_next F q m w h.1).mono ?_
    rintro e w' ⟨s0, sl, sc, rfl, o, b⟩
    exact ⟨s0, sl, sc, rfl, o.rd, b⟩
  take := fun {w F q m x s0 sl sc} h hl hx hr => by
    have hf := h.2
    have hlen : m.hv.length + x.b.length ≤ 70368744177664 := by
      by_cases hk : (CpM.want m).k = 5
      · have h1 := hx.rd hk
        have h2 : (CpM.want m).n ≤ 8 := by
          show m.an ≤ 8
          unfold CpM.an
          split
          · split <;> omega
          · omega
        have := hf.hv
        have h1 : (x.b.length : Int) = (CpM.want m).n := h1
        omega
      · have := hx.no hk
        rw [this]
        have := hf.hv
        simp
        omega
    refine (cp_take F q m x.b x.v x.d s0 sl sc w h.1 hr hlen hf.ll hf.nn (by have := hf.a0; omega) (by have := hf.a1; omega)).mono ?_
    rintro e w' ⟨rfl, F', h1, h2, h3⟩
    exact ⟨rfl, F', ⟨h1, hf.step hl hx⟩, h2, h3⟩
end Go.Proofs.Ytknahaaefmlcpaa
