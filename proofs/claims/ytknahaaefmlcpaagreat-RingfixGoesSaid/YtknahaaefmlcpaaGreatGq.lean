/- The fixed facts of layer 8's law; the law RinggetNil. Conditions: none. -/
import Derived.Test.YtknahaaefmlcpaaGreatGp
import Derived.Test.YtknahaaefmlcpaaGreatQg
import Derived.Lib.SlBytesConst
namespace Go.Proofs.YtknahaaefmlcpaaGreat
set_option maxRecDepth 100000
open Go.RowKit
set_option linter.unusedVariables false
set_option linter.unusedSimpArgs false
def f8i : GetM := GetC.init ⟨0, 64, 9⟩
def f8p : PutM := PutC.init ⟨0, 64, 3, [104, 101, 108, 108, 111]⟩
def f8A : GetM × List Int × Bool := getMac.runN 2 f8i (List.replicate 96 0)
def f8B : PutM × List Int × Bool := putMac.runN 6 f8p (List.replicate 96 0)
def f8C : GetM × List Int × Bool := getMac.runN 7 f8i f8B.2.1
theorem f8_facts : (f8A.2.2 = true ∧ f8A.1.live = false ∧ f8A.1.res.1 = 0 ∧ f8A.1.res.2 = 0 ∧ f8A.2.1 = List.replicate 96 0) ∧ (f8B.2.2 = true ∧ f8B.1.live = false) ∧ (f8C.2.2 = true ∧ f8C.1.live = false ∧ f8C.1.res.1 = 16 ∧ f8C.1.res.2 = 0 ∧ f8C.1.out = [(3, [104, 101, 108, 108, 111])]) := by decide +kernel
theorem f8A_runs : Runs getMac f8i (List.replicate 96 0) 2 f8A.1 f8A.2.1 := runN_runs (M := getMac) 2 f8i _ f8_facts.1.1
theorem f8B_runs : Runs putMac f8p (List.replicate 96 0) 6 f8B.1 f8B.2.1 := runN_runs (M := putMac) 6 f8p _ f8_facts.2.1.1
theorem f8C_runs : Runs getMac f8i f8B.2.1 7 f8C.1 f8C.2.1 := runN_runs (M := getMac) 7 f8i _ f8_facts.2.2.1
theorem strH : strOfNums [104, 101, 108, 108, 111] = ⟨#[104, 101, 108, 108, 111]⟩ := by decide
theorem MsIn.one {w : World} {O R : Nat → Prop} {v : Value} {t : Int} {l : List Int} (h : MsIn w O R v [(t, l)]) : ∃ g c s0 sl sc, v = .slice (some ⟨g, 0, none⟩) 1 c ∧ w.cell? ⟨g, 0, none⟩ = some (.int .i32 t) ∧ w.cell? ⟨g, 1, none⟩ = some (.slice s0 sl sc) ∧ RdB w (.slice s0 sl sc) l := by
  obtain ⟨⟨es, he, ho, hes⟩, _⟩ := h
  match es, he, ho, hes with
  | [], he, _, _ => simp at he
  | _ :: _ :: _, he, _, _ => simp at he
  | [e], he, ho, hes =>
    have h1 : e.1 = (t, l) := by simpa using he
    obtain ⟨h2, _⟩ := hes e (List.mem_singleton.2 rfl)
    obtain ⟨e1, e2⟩ := e
    dsimp only at h1 h2
    subst h1
    obtain ⟨sa, sl, sc, rfl⟩ := h2.isSl
    rcases ho.2 with ⟨_, h0⟩ | ⟨g, cap, cur, rfl, _⟩
    · cases h0
    · refine ⟨g, cap, sa, sl, sc, rfl, ?_, ?_, h2⟩
      · rw [World.ownsRow.cellAt ho 0 (by simp)]
        rfl
      · rw [World.ownsRow.cellAt ho 1 (by simp)]
        rfl
end Go.Proofs.YtknahaaefmlcpaaGreat
