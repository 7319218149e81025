/- How arguments are opened: from a reading to values. Conditions: none. -/
import Derived.Test.YtknahaaefmlcpaaGreatProg
import Derived.Test.YtknahaaefmlcpaaGreatPl
import Derived.ProofKit
import Derived.OpenShut
namespace Go.Proofs.YtknahaaefmlcpaaGreat
set_option maxRecDepth 100000
open Go.ChangeShapes Go.WideShapes Go.ChangeAt Go.RowKit
theorem u8_bd {a : Int} (h : (Lit.int .u8 a).wf = true) : 0 ≤ a ∧ a < 256 := by
  have : 0 ≤ a ∧ a ≤ 255 := by simpa [Lit.wf, IntKind.min, IntKind.max, IntKind.signed, IntKind.bits] using h
  omega
/-- A struct that came in, field by field. -/
theorem open_fields {H : Type} {enc : TypeId × Value → H} {P : Program} {W : World} {base : Nat} {t : TypeId} {fs : Array Field} {v : Value} {d : DataW H} {p : List MemPlace} (ht : P.underlying t = some (.struct fs))
    (hval : Value.okWide P W .any base t v) (h : DataW.Trod enc P W 0 (fun _ => true) true t v d p) :
    ∃ cs : Array Value, v = .agg cs ∧ cs.size = P.cellsOf t ∧ ∃ fuel, ∀ f ∈ fs.toList, ∃ y, DataW.trod enc P W 0 (fun _ => true) true fuel f.type ((cs.toList.drop f.offset).take (P.cellsOf f.type)) = some y := by
  simp only [Value.okWide, ht] at hval
  obtain ⟨cs, rfl, hs, _⟩ := hval
  refine ⟨cs, rfl, hs, ?_⟩
  obtain ⟨fuel, hf⟩ := h
  obtain ⟨xs, n, -, -, -, hx, hg⟩ := DataW.trod_struct ht hf
  refine ⟨n, fun f hfm => ?_⟩
  obtain ⟨i, hi, rfl⟩ := List.getElem_of_mem hfm
  have hi' : i < fs.size := by simpa using hi
  have := hg i fs[i] (by simp [hi'])
  exact ⟨xs[i]'(by omega), by simpa [Value.cells, hx, hi'] using this⟩
theorem open_array {H : Type} {enc : TypeId × Value → H} {P : Program} {W : World} {base : Nat} {t e : TypeId} {n : Nat} {v : Value} {d : DataW H} {p : List MemPlace} (ht : P.underlying t = some (.array n e))
    (hval : Value.okWide P W .any base t v) (h : DataW.Trod enc P W 0 (fun _ => true) true t v d p) :
    ∃ cs : Array Value, v = .agg cs ∧ cs.size = P.cellsOf t ∧ ∃ fuel, ∀ i ∈ List.range n, ∃ y, DataW.trod enc P W 0 (fun _ => true) true fuel e ((cs.toList.drop (i * P.cellsOf e)).take (P.cellsOf e)) = some y := by
  simp only [Value.okWide, ht] at hval
  obtain ⟨cs, rfl, hs, _⟩ := hval
  refine ⟨cs, rfl, hs, ?_⟩
  obtain ⟨fuel, hf⟩ := h
  obtain ⟨xs, k, -, -, -, hx, hg⟩ := DataW.trod_array ht hf
  refine ⟨k, fun i hi => ?_⟩
  have hi' : i < n := by simpa using hi
  have := hg i hi'
  exact ⟨xs[i]'(by omega), by simpa [Value.cells, hx, hi'] using this⟩
theorem int_of {H : Type} {enc : TypeId × Value → H} {P : Program} {W : World} {sp : Nat → Bool} {held : Bool} {fuel : Nat} {t : TypeId} {k : IntKind} {c : Value} {y : DataW H × List MemPlace} (ht : P.underlying t = some (.int k))
    (h : DataW.trod enc P W 0 sp held fuel t [c] = some y) : ∃ n, c = .int k n ∧ (Lit.int k n).wf = true := by
  obtain ⟨n, hc, -, hw⟩ := DataW.trod_int ht h
  simp at hc
  exact ⟨n, hc, hw⟩
theorem arr4 {α : Type} {cs : Array α} (h : cs.size = 4) : ∃ a b c d, cs = #[a, b, c, d] := by
  match cs, h with
  | ⟨[a, b, c, d]⟩, _ => exact ⟨a, b, c, d, rfl⟩
theorem arr7 {α : Type} {cs : Array α} (h : cs.size = 7) : ∃ a b c d e f g, cs = #[a, b, c, d, e, f, g] := by
  match cs, h with
  | ⟨[a, b, c, d, e, f, g]⟩, _ => exact ⟨a, b, c, d, e, f, g, rfl⟩
theorem arr6 {α : Type} {cs : Array α} (h : cs.size = 6) : ∃ a b c d e f, cs = #[a, b, c, d, e, f] := by
  match cs, h with
  | ⟨[a, b, c, d, e, f]⟩, _ => exact ⟨a, b, c, d, e, f, rfl⟩
theorem arr9 {α : Type} {cs : Array α} (h : cs.size = 9) : ∃ a b c d e f g i j, cs = #[a, b, c, d, e, f, g, i, j] := by
  match cs, h with
  | ⟨[a, b, c, d, e, f, g, i, j]⟩, _ => exact ⟨a, b, c, d, e, f, g, i, j, rfl⟩
theorem cellsB : Tryz.prog.cellsOf 5 = 1 := by kernel_rfl
/-- A slice of bytes that came in. -/
theorem open_bytes {H : Type} {enc : TypeId × Value → H} {W : World} {base : Nat} {v : Value} {d : DataW H} {p : List MemPlace}
    (hval : Value.okWide Tryz.prog W .any base 22 v) (h : DataW.Trod enc Tryz.prog W 0 (fun _ => true) true 22 v d p) :
    ∃ l, RdB W v l ∧ IsB l := by
  obtain ⟨a0, len, cap, rfl⟩ := okWide_slice Tryz.underlying22 hval
  obtain ⟨fuel, hf⟩ := h
  rcases open_ints Tryz.underlying22 Tryz.underlying5 cellsB hf with ⟨hcs, hx⟩ | ⟨a, len', cap', zs, hcs, _, hl, hm, hz, hx, hcell, hwz⟩
  · simp [Value.cells] at hcs
    obtain ⟨rfl, rfl, rfl⟩ := hcs
    exact ⟨[], .inl ⟨rfl, rfl⟩, IsB.nil⟩
  · simp [Value.cells] at hcs
    obtain ⟨rfl, rfl, rfl⟩ := hcs
    simp only [if_true] at hz
    by_cases h0 : len = 0
    · subst h0
      exact ⟨[], .inr (.inl ⟨a, cap, rfl, rfl, hm⟩), IsB.nil⟩
    · obtain ⟨b, off, rfl, hc⟩ := ints_at hcell (by omega)
      refine ⟨zs.take len, .inr (.inr ⟨b, off, cap, ?_, ?_, hm, fun i hi => ?_⟩), fun x hx => u8_bd (hwz x (List.mem_of_mem_take hx))⟩
      · simp [hz, hl]
      · simp; omega
      · simp at hi
        rw [hc i (by omega), gB_take _ _ _ (by omega)]
        rfl
end Go.Proofs.YtknahaaefmlcpaaGreat
