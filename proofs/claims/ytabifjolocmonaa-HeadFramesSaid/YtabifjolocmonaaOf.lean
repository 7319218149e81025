/- How arguments of the types api.Frame and [4]uint64 are opened. Conditions: none. -/
import Derived.Test.YtabifjolocmonaaOp
import Derived.Test.YtabifjolocmonaaHf
namespace Go.Proofs.Ytabifjolocmonaa
set_option maxRecDepth 100000
open Go.ChangeShapes Go.WideShapes Go.ChangeAt Go.RowKit
theorem cellsFr : Try.prog.cellsOf 35 = 9 := by kernel_rfl
theorem cellsFi : Try.prog.cellsOf 21 = 1 := by kernel_rfl
theorem cellsF8 : Try.prog.cellsOf 5 = 1 := by kernel_rfl
theorem cellsF16 : Try.prog.cellsOf 33 = 1 := by kernel_rfl
theorem cellsF64 : Try.prog.cellsOf 22 = 1 := by kernel_rfl
theorem cellsW4 : Try.prog.cellsOf 36 = 4 := by kernel_rfl
theorem i32_bdf {a : Int} (h : (Lit.int .i32 a).wf = true) : -2147483648 ≤ a ∧ a ≤ 2147483647 := by
  simpa [Lit.wf, IntKind.min, IntKind.max, IntKind.signed, IntKind.bits] using h
theorem u8_bdf {a : Int} (h : (Lit.int .u8 a).wf = true) : 0 ≤ a ∧ a ≤ 255 := by
  simpa [Lit.wf, IntKind.min, IntKind.max, IntKind.signed, IntKind.bits] using h
theorem u16_bdf {a : Int} (h : (Lit.int .u16 a).wf = true) : 0 ≤ a ∧ a ≤ 65535 := by
  simpa [Lit.wf, IntKind.min, IntKind.max, IntKind.signed, IntKind.bits] using h
theorem u64_bdf {a : Int} (h : (Lit.int .u64 a).wf = true) : 0 ≤ a ∧ a ≤ 18446744073709551615 := by
  simpa [Lit.wf, IntKind.min, IntKind.max, IntKind.signed, IntKind.bits] using h
theorem open_frame {H : Type} {enc : TypeId × Value → H} {W : World} {base : Nat} {v : Value} {d : DataW H} {p : List MemPlace}
    (hval : Value.okWide Try.prog W .any base 35 v) (h : DataW.Trod enc Try.prog W 0 (fun _ => true) true 35 v d p) :
    ∃ f : Frm, v = .agg #[.int .i32 f.l, .int .u8 f.v, .int .u8 f.g, .int .u16 f.y, .int .i32 f.o, .int .i32 f.s, .int .i32 f.t, .int .i32 f.m, .int .u64 f.r] ∧ f.Ok := by
  obtain ⟨cs, rfl, hs, fuel, hf⟩ := open_fields Try.underlying35 hval h
  rw [cellsFr] at hs
  obtain ⟨c0, c1, c2, c3, c4, c5, c6, c7, c8, rfl⟩ := arr9 hs
  simp only [List.mem_cons, List.not_mem_nil, or_false, forall_eq_or_imp, forall_eq, cellsFi, cellsF8, cellsF16, cellsF64] at hf
  obtain ⟨⟨y0, h0⟩, ⟨y1, h1⟩, ⟨y2, h2⟩, ⟨y3, h3⟩, ⟨y4, h4⟩, ⟨y5, h5⟩, ⟨y6, h6⟩, ⟨y7, h7⟩, ⟨y8, h8⟩⟩ := hf
  simp at h0 h1 h2 h3 h4 h5 h6 h7 h8
  obtain ⟨l, rfl, w0⟩ := int_of Try.underlying21 h0
  obtain ⟨v, rfl, w1⟩ := int_of Try.underlying5 h1
  obtain ⟨g, rfl, w2⟩ := int_of Try.underlying5 h2
  obtain ⟨y, rfl, w3⟩ := int_of Try.underlying33 h3
  obtain ⟨o, rfl, w4⟩ := int_of Try.underlying21 h4
  obtain ⟨s, rfl, w5⟩ := int_of Try.underlying21 h5
  obtain ⟨t, rfl, w6⟩ := int_of Try.underlying21 h6
  obtain ⟨m, rfl, w7⟩ := int_of Try.underlying21 h7
  obtain ⟨r, rfl, w8⟩ := int_of Try.underlying22 h8
  exact ⟨⟨l, v, g, y, o, s, t, m, r⟩, rfl, i32_bdf w0, u8_bdf w1, u8_bdf w2, u16_bdf w3, i32_bdf w4, i32_bdf w5, i32_bdf w6, i32_bdf w7, u64_bdf w8⟩
theorem open_words4 {H : Type} {enc : TypeId × Value → H} {W : World} {base : Nat} {v : Value} {d : DataW H} {p : List MemPlace}
    (hval : Value.okWide Try.prog W .any base 36 v) (h : DataW.Trod enc Try.prog W 0 (fun _ => true) true 36 v d p) :
    ∃ a b c d : Int, v = .agg #[.int .u64 a, .int .u64 b, .int .u64 c, .int .u64 d] ∧ (0 ≤ a ∧ a ≤ 18446744073709551615) ∧ (0 ≤ b ∧ b ≤ 18446744073709551615) ∧ (0 ≤ c ∧ c ≤ 18446744073709551615) ∧ (0 ≤ d ∧ d ≤ 18446744073709551615) := by
  obtain ⟨cs, rfl, hs, fuel, hf⟩ := open_array Try.underlying36 hval h
  rw [cellsW4] at hs
  obtain ⟨c0, c1, c2, c3, rfl⟩ := arr4 hs
  obtain ⟨y0, h0⟩ := hf 0 (by decide)
  obtain ⟨y1, h1⟩ := hf 1 (by decide)
  obtain ⟨y2, h2⟩ := hf 2 (by decide)
  obtain ⟨y3, h3⟩ := hf 3 (by decide)
  simp only [cellsF64] at h0 h1 h2 h3
  simp at h0 h1 h2 h3
  obtain ⟨a, rfl, w0⟩ := int_of Try.underlying22 h0
  obtain ⟨b, rfl, w1⟩ := int_of Try.underlying22 h1
  obtain ⟨c, rfl, w2⟩ := int_of Try.underlying22 h2
  obtain ⟨d, rfl, w3⟩ := int_of Try.underlying22 h3
  exact ⟨a, b, c, d, rfl, u64_bdf w0, u64_bdf w1, u64_bdf w2, u64_bdf w3⟩
end Go.Proofs.Ytabifjolocmonaa
