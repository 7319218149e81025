/- How an argument of the type api.Ring is opened. Conditions: none. -/
import Derived.Test.YtpicplkbblmbeaaOp
namespace Go.Proofs.Ytpicplkbblmbeaa
set_option maxRecDepth 100000
open Go.ChangeShapes Go.WideShapes Go.ChangeAt Go.RowKit
theorem cellsRing : Try.prog.cellsOf 67 = 2 := by kernel_rfl
theorem cellsIntR : Try.prog.cellsOf 3 = 1 := by kernel_rfl
theorem open_ring {H : Type} {enc : TypeId × Value → H} {W : World} {base : Nat} {v : Value} {d : DataW H} {p : List MemPlace}
    (hval : Value.okWide Try.prog W .any base 67 v) (h : DataW.Trod enc Try.prog W 0 (fun _ => true) true 67 v d p) :
    ∃ b s : Int, v = .agg #[.int .i64 b, .int .i64 s] ∧ (Lit.int .i64 b).wf = true ∧ (Lit.int .i64 s).wf = true := by
  obtain ⟨cs, rfl, hs, fuel, hf⟩ := open_fields Try.underlying67 hval h
  rw [cellsRing] at hs
  obtain ⟨c0, c1, rfl⟩ : ∃ c0 c1, cs = #[c0, c1] := by
    obtain ⟨l⟩ := cs
    match l, hs with
    | [a, b], _ => exact ⟨a, b, rfl⟩
  simp only [List.mem_cons, List.not_mem_nil, or_false, forall_eq_or_imp, forall_eq, cellsIntR] at hf
  obtain ⟨⟨y0, h0⟩, ⟨y1, h1⟩⟩ := hf
  simp at h0 h1
  obtain ⟨b, rfl, w0⟩ := int_of Try.underlying3 h0
  obtain ⟨s, rfl, w1⟩ := int_of Try.underlying3 h1
  exact ⟨b, s, rfl, w0, w1⟩
end Go.Proofs.Ytpicplkbblmbeaa
