/- How arguments are opened: from a reading to values. Conditions: none. -/
import Derived.Test.YtmlmchgigepleaaDoorProg
import Derived.Test.YtmlmchgigepleaaDoorPl
import Derived.ProofKit
import Derived.OpenShut
namespace Go.Proofs.YtmlmchgigepleaaDoor
open Go.ChangeShapes Go.WideShapes Go.ChangeAt Go.RowKit
theorem u8_bd {a : Int} (h : (Lit.int .u8 a).wf = true) : 0 ≤ a ∧ a < 256 := by
  have : 0 ≤ a ∧ a ≤ 255 := by simpa [Lit.wf, IntKind.min, IntKind.max, IntKind.signed, IntKind.bits] using h
  omega
theorem cellsB : Tryd.prog.cellsOf 5 = 1 := by kernel_rfl
/-- A slice of bytes that came in. -/
theorem open_bytes {H : Type} {enc : TypeId × Value → H} {W : World} {base : Nat} {v : Value} {d : DataW H} {p : List MemPlace}
    (hval : Value.okWide Tryd.prog W .any base 32 v) (h : DataW.Trod enc Tryd.prog W 0 (fun _ => true) true 32 v d p) :
    ∃ l, RdB W v l ∧ IsB l := by
  obtain ⟨a0, len, cap, rfl⟩ := okWide_slice Tryd.underlying32 hval
  obtain ⟨fuel, hf⟩ := h
  rcases open_ints Tryd.underlying32 Tryd.underlying5 cellsB hf with ⟨hcs, hx⟩ | ⟨a, len', cap', zs, hcs, _, hl, hm, hz, hx, hcell, hwz⟩
  · simp [Value.cells] at hcs
    obtain ⟨rfl, rfl, rfl⟩ := hcs
    exact ⟨[], .inl ⟨rfl, rfl⟩, IsB.nil⟩
  · simp [Value.cells] at hcs
    obtain ⟨rfl, rfl, rfl⟩ := hcs
    simp only [if_true] at hz
    by_cases h0 : len = 0
    · subst h0
      exact ⟨[], .inr (.inl ⟨a, cap, rfl, rfl, hm⟩), IsB.nil⟩
    · obtain ⟨b, off, rfl, hc⟩ := ints_at hcell (by omega)
      refine ⟨zs.take len, .inr (.inr ⟨b, off, cap, ?_, ?_, hm, fun i hi => ?_⟩), fun x hx => u8_bd (hwz x (List.mem_of_mem_take hx))⟩
      · simp [hz, hl]
      · simp; omega
      · simp at hi
        rw [hc i (by omega), gB_take _ _ _ (by omega)]
        rfl
end Go.Proofs.YtmlmchgigepleaaDoor
