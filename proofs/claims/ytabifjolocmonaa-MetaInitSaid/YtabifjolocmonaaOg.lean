/- How an argument of the type api.Log is opened. Conditions: none. -/
import Derived.Test.YtabifjolocmonaaOp
namespace Go.Proofs.Ytabifjolocmonaa
set_option maxRecDepth 100000
open Go.ChangeShapes Go.WideShapes Go.ChangeAt Go.RowKit
theorem cellsLog : Try.prog.cellsOf 41 = 7 := by kernel_rfl
theorem cellsInt : Try.prog.cellsOf 3 = 1 := by kernel_rfl
theorem cellsI32 : Try.prog.cellsOf 21 = 1 := by kernel_rfl
theorem open_log {H : Type} {enc : TypeId × Value → H} {W : World} {base : Nat} {v : Value} {d : DataW H} {p : List MemPlace}
    (hval : Value.okWide Try.prog W .any base 41 v) (h : DataW.Trod enc Try.prog W 0 (fun _ => true) true 41 v d p) :
    ∃ b t m s i ss st : Int, v = .agg #[.int .i64 b, .int .i64 t, .int .i64 m, .int .i64 s, .int .i32 i, .int .i32 ss, .int .i32 st] ∧ (Lit.int .i64 b).wf = true ∧ (Lit.int .i64 t).wf = true ∧ (Lit.int .i64 m).wf = true ∧ (Lit.int .i64 s).wf = true ∧ (Lit.int .i32 i).wf = true ∧ (Lit.int .i32 ss).wf = true ∧ (Lit.int .i32 st).wf = true := by
  obtain ⟨cs, rfl, hs, fuel, hf⟩ := open_fields Try.underlying41 hval h
  rw [cellsLog] at hs
  obtain ⟨c0, c1, c2, c3, c4, c5, c6, rfl⟩ := arr7 hs
  simp only [List.mem_cons, List.not_mem_nil, or_false, forall_eq_or_imp, forall_eq, cellsInt, cellsI32] at hf
  obtain ⟨⟨y0, h0⟩, ⟨y1, h1⟩, ⟨y2, h2⟩, ⟨y3, h3⟩, ⟨y4, h4⟩, ⟨y5, h5⟩, ⟨y6, h6⟩⟩ := hf
  simp at h0 h1 h2 h3 h4 h5 h6
  obtain ⟨b, rfl, w0⟩ := int_of Try.underlying3 h0
  obtain ⟨t, rfl, w1⟩ := int_of Try.underlying3 h1
  obtain ⟨m, rfl, w2⟩ := int_of Try.underlying3 h2
  obtain ⟨s, rfl, w3⟩ := int_of Try.underlying3 h3
  obtain ⟨i, rfl, w4⟩ := int_of Try.underlying21 h4
  obtain ⟨ss, rfl, w5⟩ := int_of Try.underlying21 h5
  obtain ⟨st, rfl, w6⟩ := int_of Try.underlying21 h6
  exact ⟨b, t, m, s, i, ss, st, rfl, w0, w1, w2, w3, w4, w5, w6⟩
end Go.Proofs.Ytabifjolocmonaa
