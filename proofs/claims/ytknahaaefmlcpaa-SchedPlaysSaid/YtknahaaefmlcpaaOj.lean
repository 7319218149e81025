/- How arguments of the types []millstreamlaw06.Job and []api.Pick are opened. Conditions: none. -/
import Derived.Test.YtknahaaefmlcpaaOy
namespace Go.Proofs.Ytknahaaefmlcpaa
set_option maxRecDepth 100000
open Go.ChangeShapes Go.WideShapes Go.ChangeAt Go.RowKit
set_option linter.unusedVariables false
theorem u8_bj {a : Int} (h : (Lit.int .u8 a).wf = true) : 0 ≤ a ∧ a ≤ 255 := by
  simpa [Lit.wf, IntKind.min, IntKind.max, IntKind.signed, IntKind.bits] using h
theorem u16_bj {a : Int} (h : (Lit.int .u16 a).wf = true) : 0 ≤ a ∧ a ≤ 65535 := by
  simpa [Lit.wf, IntKind.min, IntKind.max, IntKind.signed, IntKind.bits] using h
theorem i64_bj {a : Int} (h : (Lit.int .i64 a).wf = true) : -9223372036854775808 ≤ a ∧ a ≤ 9223372036854775807 := by
  simpa [Lit.wf, IntKind.min, IntKind.max, IntKind.signed, IntKind.bits] using h
theorem cellsJ16 : Try.prog.cellsOf 25 = 1 := by kernel_rfl
theorem cellsJi : Try.prog.cellsOf 3 = 1 := by kernel_rfl
theorem cellsJ64 : Try.prog.cellsOf 2 = 1 := by kernel_rfl
theorem cellsJob : Try.prog.cellsOf 28 = 4 := by kernel_rfl
theorem cellsPk : Try.prog.cellsOf 44 = 3 := by kernel_rfl
structure JobV where
  k : Int
  a : Int
  n : Int
  s : Value
  b : List Int
def JobV.cs (j : JobV) : List Value := [.int .u8 j.k, .int .u16 j.a, .int .u16 j.n, j.s]
structure JobV.Ok (w : World) (j : JobV) : Prop where
  k : 0 ≤ j.k ∧ j.k ≤ 255
  a : 0 ≤ j.a ∧ j.a ≤ 65535
  n : 0 ≤ j.n ∧ j.n ≤ 65535
  s : ∃ a n c, j.s = .slice a n c
  r : RdB w j.s j.b
  b : IsB j.b
theorem open_jobs {H : Type} {enc : TypeId × Value → H} {W : World} {base : Nat} {v : Value} {d : DataW H} {p : List MemPlace}
    (hval : Value.okWide Try.prog W .any base 22 v) (h : DataW.Trod enc Try.prog W 0 (fun _ => true) true 22 v d p) :
    ∃ Js : List JobV, RdR W v 4 (Js.map JobV.cs) ∧ ∀ j ∈ Js, JobV.Ok W j := by
  obtain ⟨L, hr, hL⟩ := open_rows 4 Try.underlying22 cellsJob (by decide) hval h
  obtain ⟨Js, rfl, hJ⟩ := rows_map (JobV.Ok W) JobV.cs L (fun i l hi => by
    obtain ⟨hl, fuel, y, ht⟩ := hL i l hi
    obtain ⟨c0, c1, c2, c3, rfl⟩ : ∃ c0 c1 c2 c3, l = [c0, c1, c2, c3] := by
      match l, hl with
      | [c0, c1, c2, c3], _ => exact ⟨c0, c1, c2, c3, rfl⟩
    obtain ⟨fu, hfs⟩ := fields_of Try.underlying28 ht
    simp only [List.mem_cons, List.not_mem_nil, or_false, forall_eq_or_imp, forall_eq, cellsA8, cellsJ16, cellsAS] at hfs
    obtain ⟨⟨y0, h0⟩, ⟨y1, h1⟩, ⟨y2, h2⟩, ⟨y3, h3⟩⟩ := hfs
    simp at h0 h1 h2 h3
    obtain ⟨k, rfl, w0⟩ := int_of Try.underlying5 h0
    obtain ⟨a, rfl, w1⟩ := int_of Try.underlying25 h1
    obtain ⟨n, rfl, w2⟩ := int_of Try.underlying25 h2
    obtain ⟨s0, sl, sc, b, rfl, hr, hb⟩ := bytes_at h3
    exact ⟨⟨k, a, n, .slice s0 sl sc, b⟩, rfl, u8_bj w0, u16_bj w1, u16_bj w2, ⟨_, _, _, rfl⟩, hr, hb⟩)
  exact ⟨Js, hr, hJ⟩
structure PickV where
  k : Int
  a : Int
  n : Int
def PickV.cs (p : PickV) : List Value := [.int .i64 p.k, .int .i64 p.a, .int .i64 p.n]
structure PickV.Ok (p : PickV) : Prop where
  k : -9223372036854775808 ≤ p.k ∧ p.k ≤ 9223372036854775807
  a : -9223372036854775808 ≤ p.a ∧ p.a ≤ 9223372036854775807
  n : -9223372036854775808 ≤ p.n ∧ p.n ≤ 9223372036854775807
theorem open_picks {H : Type} {enc : TypeId × Value → H} {W : World} {base : Nat} {v : Value} {d : DataW H} {p : List MemPlace}
    (hval : Value.okWide Try.prog W .any base 23 v) (h : DataW.Trod enc Try.prog W 0 (fun _ => true) true 23 v d p) :
    ∃ Ps : List PickV, RdR W v 3 (Ps.map PickV.cs) ∧ ∀ q ∈ Ps, PickV.Ok q := by
  obtain ⟨L, hr, hL⟩ := open_rows 3 Try.underlying23 cellsPk (by decide) hval h
  obtain ⟨Ps, rfl, hP⟩ := rows_map PickV.Ok PickV.cs L (fun i l hi => by
    obtain ⟨hl, fuel, y, ht⟩ := hL i l hi
    obtain ⟨c0, c1, c2, rfl⟩ : ∃ c0 c1 c2, l = [c0, c1, c2] := by
      match l, hl with
      | [c0, c1, c2], _ => exact ⟨c0, c1, c2, rfl⟩
    obtain ⟨fu, hfs⟩ := fields_of Try.underlying44 ht
    simp only [List.mem_cons, List.not_mem_nil, or_false, forall_eq_or_imp, forall_eq, cellsJi, cellsJ64] at hfs
    obtain ⟨⟨y0, h0⟩, ⟨y1, h1⟩, ⟨y2, h2⟩⟩ := hfs
    simp at h0 h1 h2
    obtain ⟨k, rfl, w0⟩ := int_of Try.underlying3 h0
    obtain ⟨a, rfl, w1⟩ := int_of Try.underlying3 h1
    obtain ⟨n, rfl, w2⟩ := int_of Try.underlying2 h2
    exact ⟨⟨k, a, n⟩, rfl, i64_bj w0, i64_bj w1, i64_bj w2⟩)
  exact ⟨Ps, hr, hP⟩
end Go.Proofs.Ytknahaaefmlcpaa
