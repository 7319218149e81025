/- How arguments are opened: from a reading to values. Conditions: none. -/
import Derived.Test.YtknahaaefmlcpaaGreatProg
import Derived.Test.YtknahaaefmlcpaaGreatPl
import Derived.ProofKit
import Derived.OpenShut
namespace Go.Proofs.YtknahaaefmlcpaaGreat
set_option maxRecDepth 100000
open Go.ChangeShapes Go.WideShapes Go.ChangeAt Go.RowKit
theorem u8_bd {a : Int} (h : (Lit.int .u8 a).wf = true) : 0 ≤ a ∧ a < 256 := by
 have : 0 ≤ a ∧ a ≤ 255 := by simpa [Lit.wf, IntKind.min, IntKind.max, IntKind.signed, IntKind.bits] using h
 omega
theorem open_fields {H : Type} {enc : TypeId × Value → H} {P : Program} {W : World} {base : Nat} {t : TypeId} {fs : Array Field} {v : Value} {d : DataW H} {p : List MemPlace} (ht : P.underlying t = some (.struct fs))
  (hval : Value.okWide P W .any base t v) (h : DataW.Trod enc P W 0 (fun _ => true) true t v d p) :
  ∃ cs : Array Value, v = .agg cs ∧ cs.size = P.cellsOf t ∧ ∃ fuel, ∀ f ∈ fs.toList, ∃ y, DataW.trod enc P W 0 (fun _ => true) true fuel f.type ((cs.toList.drop f.offset).take (P.cellsOf f.type)) = some y := by
 simp only [Value.okWide, ht] at hval
 obtain ⟨cs, rfl, hs, _⟩ := hval
 refine ⟨cs, rfl, hs, ?_⟩
 obtain ⟨fuel, hf⟩ := h
 obtain ⟨xs, n, -, -, -, hx, hg⟩ := DataW.trod_struct ht hf
 refine ⟨n, fun f hfm => ?_⟩
 obtain ⟨i, hi, rfl⟩ := List.getElem_of_mem hfm
 have hi' : i < fs.size := by simpa using hi
 have := hg i fs[i] (by simp [hi'])
 exact ⟨xs[i]'(by omega), by simpa [Value.cells, hx, hi'] using this⟩
theorem int_of {H : Type} {enc : TypeId × Value → H} {P : Program} {W : World} {sp : Nat → Bool} {held : Bool} {fuel : Nat} {t : TypeId} {k : IntKind} {c : Value} {y : DataW H × List MemPlace} (ht : P.underlying t = some (.int k))
  (h : DataW.trod enc P W 0 sp held fuel t [c] = some y) : ∃ n, c = .int k n ∧ (Lit.int k n).wf = true := by
 obtain ⟨n, hc, -, hw⟩ := DataW.trod_int ht h
 simp at hc
 exact ⟨n, hc, hw⟩
theorem arr6 {α : Type} {cs : Array α} (h : cs.size = 6) : ∃ a b c d e f, cs = #[a, b, c, d, e, f] := by
 match cs, h with
 | ⟨[a, b, c, d, e, f]⟩, _ => exact ⟨a, b, c, d, e, f, rfl⟩
end Go.Proofs.YtknahaaefmlcpaaGreat
