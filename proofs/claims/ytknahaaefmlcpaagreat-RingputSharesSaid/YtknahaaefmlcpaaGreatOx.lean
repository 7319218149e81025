/- How an argument of the type []millstreamlaw07.Write is opened. Conditions: none. -/
import Derived.Test.YtknahaaefmlcpaaGreatOy
namespace Go.Proofs.YtknahaaefmlcpaaGreat
set_option maxRecDepth 100000
open Go.ChangeShapes Go.WideShapes Go.ChangeAt Go.RowKit
set_option linter.unusedVariables false
theorem u16_bw {a : Int} (h : (Lit.int .u16 a).wf = true) : 0 ≤ a ∧ a ≤ 65535 := by
  simpa [Lit.wf, IntKind.min, IntKind.max, IntKind.signed, IntKind.bits] using h
theorem u64_bw {a : Int} (h : (Lit.int .u64 a).wf = true) : 0 ≤ a ∧ a ≤ 18446744073709551615 := by
  simpa [Lit.wf, IntKind.min, IntKind.max, IntKind.signed, IntKind.bits] using h
theorem cellsW16 : Tryz.prog.cellsOf 41 = 1 := by kernel_rfl
theorem cellsW64 : Tryz.prog.cellsOf 31 = 1 := by kernel_rfl
theorem cellsWr : Tryz.prog.cellsOf 43 = 2 := by kernel_rfl
structure WrV where
  a : Int
  v : Int
def WrV.cs (p : WrV) : List Value := [.int .u16 p.a, .int .u64 p.v]
structure WrV.Ok (p : WrV) : Prop where
  a : 0 ≤ p.a ∧ p.a ≤ 65535
  v : 0 ≤ p.v ∧ p.v ≤ 18446744073709551615
theorem open_writes {H : Type} {enc : TypeId × Value → H} {W : World} {base : Nat} {v : Value} {d : DataW H} {p : List MemPlace}
    (hval : Value.okWide Tryz.prog W .any base 23 v) (h : DataW.Trod enc Tryz.prog W 0 (fun _ => true) true 23 v d p) :
    ∃ Ws : List WrV, RdR W v 2 (Ws.map WrV.cs) ∧ ∀ j ∈ Ws, WrV.Ok j := by
  obtain ⟨L, hr, hL⟩ := open_rows 2 Tryz.underlying23 cellsWr (by decide) hval h
  obtain ⟨Ws, rfl, hJ⟩ := rows_map WrV.Ok WrV.cs L (fun i l hi => by
    obtain ⟨hl, fuel, y, ht⟩ := hL i l hi
    obtain ⟨c0, c1, rfl⟩ : ∃ c0 c1, l = [c0, c1] := by
      match l, hl with
      | [c0, c1], _ => exact ⟨c0, c1, rfl⟩
    obtain ⟨fu, hfs⟩ := fields_of Tryz.underlying43 ht
    simp only [List.mem_cons, List.not_mem_nil, or_false, forall_eq_or_imp, forall_eq, cellsW16, cellsW64] at hfs
    obtain ⟨⟨y0, h0⟩, ⟨y1, h1⟩⟩ := hfs
    simp at h0 h1
    obtain ⟨a, rfl, w0⟩ := int_of Tryz.underlying41 h0
    obtain ⟨x, rfl, w1⟩ := int_of Tryz.underlying31 h1
    exact ⟨⟨a, x⟩, rfl, u16_bw w0, u64_bw w1⟩)
  exact ⟨Ws, hr, hJ⟩
end Go.Proofs.YtknahaaefmlcpaaGreat
