/- How an argument of the type api.Command is opened. Conditions: none. -/
import Derived.Test.YtkbjbpaeoopkfaaOp
namespace Go.Proofs.Ytkbjbpaeoopkfaa
open Go.ChangeShapes Go.WideShapes Go.ChangeAt Go.RowKit
set_option maxRecDepth 100000
theorem cellsCmd : Try.prog.cellsOf 25 = 6 := by kernel_rfl
theorem cellsC64 : Try.prog.cellsOf 2 = 1 := by kernel_rfl
theorem cellsC32 : Try.prog.cellsOf 21 = 1 := by kernel_rfl
theorem open_command {H : Type} {enc : TypeId × Value → H} {W : World} {base : Nat} {v : Value} {d : DataW H} {p : List MemPlace}
    (hval : Value.okWide Try.prog W .any base 25 v) (h : DataW.Trod enc Try.prog W 0 (fun _ => true) true 25 v d p) :
    ∃ k st se er co cl : Int, v = .agg #[.int .i32 k, .int .i32 st, .int .i32 se, .int .i32 er, .int .i64 co, .int .i64 cl] ∧ (Lit.int .i32 k).wf = true ∧ (Lit.int .i32 st).wf = true ∧ (Lit.int .i32 se).wf = true ∧ (Lit.int .i32 er).wf = true ∧ (Lit.int .i64 co).wf = true ∧ (Lit.int .i64 cl).wf = true := by
  obtain ⟨cs, rfl, hs, fuel, hf⟩ := open_fields Try.underlying25 hval h
  rw [cellsCmd] at hs
  obtain ⟨c0, c1, c2, c3, c4, c5, rfl⟩ := arr6 hs
  simp only [List.mem_cons, List.not_mem_nil, or_false, forall_eq_or_imp, forall_eq, cellsC64, cellsC32] at hf
  obtain ⟨⟨y0, h0⟩, ⟨y1, h1⟩, ⟨y2, h2⟩, ⟨y3, h3⟩, ⟨y4, h4⟩, ⟨y5, h5⟩⟩ := hf
  simp at h0 h1 h2 h3 h4 h5
  obtain ⟨b, rfl, w0⟩ := int_of Try.underlying21 h0
  obtain ⟨t, rfl, w1⟩ := int_of Try.underlying21 h1
  obtain ⟨m, rfl, w2⟩ := int_of Try.underlying21 h2
  obtain ⟨s, rfl, w3⟩ := int_of Try.underlying21 h3
  obtain ⟨i, rfl, w4⟩ := int_of Try.underlying2 h4
  obtain ⟨ss, rfl, w5⟩ := int_of Try.underlying2 h5
  exact ⟨b, t, m, s, i, ss, rfl, w0, w1, w2, w3, w4, w5⟩
end Go.Proofs.Ytkbjbpaeoopkfaa
