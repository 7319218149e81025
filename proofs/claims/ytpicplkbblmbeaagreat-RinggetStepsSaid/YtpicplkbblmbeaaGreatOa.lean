/- How arguments of the types api.Access and api.Answer are opened. Conditions: none. -/
import Derived.Test.YtpicplkbblmbeaaGreatOp
namespace Go.Proofs.YtpicplkbblmbeaaGreat
set_option maxRecDepth 100000
open Go.ChangeShapes Go.WideShapes Go.ChangeAt Go.RowKit
theorem cellsAcc : Tryz.prog.cellsOf 37 = 6 := by kernel_rfl
theorem cellsAI : Tryz.prog.cellsOf 3 = 1 := by kernel_rfl
theorem cellsAU : Tryz.prog.cellsOf 31 = 1 := by kernel_rfl
theorem cellsAS : Tryz.prog.cellsOf 22 = 1 := by kernel_rfl
theorem cellsA8 : Tryz.prog.cellsOf 5 = 1 := by kernel_rfl
/-- A slice of bytes in a cell. -/
theorem bytes_at {H : Type} {enc : TypeId × Value → H} {W : World} {fuel : Nat} {c : Value} {y : DataW H × List MemPlace} (h : DataW.trod enc Tryz.prog W 0 (fun _ => true) true fuel 22 [c] = some y) :
    ∃ a0 n cap l, c = .slice a0 n cap ∧ RdB W c l ∧ IsB l := by
  rcases open_ints Tryz.underlying22 Tryz.underlying5 cellsA8 h with ⟨hcs, hx⟩ | ⟨a, len', cap', zs, hcs, _, hl, hm, hz, hx, hcell, hwz⟩
  · simp at hcs
    subst hcs
    exact ⟨none, 0, 0, [], rfl, .inl ⟨rfl, rfl⟩, IsB.nil⟩
  · simp at hcs
    subst hcs
    simp only [if_true] at hz
    by_cases h0 : len' = 0
    · subst h0
      exact ⟨_, _, _, [], rfl, .inr (.inl ⟨a, cap', rfl, rfl, hm⟩), IsB.nil⟩
    · obtain ⟨b, off, rfl, hc⟩ := ints_at hcell (by omega)
      refine ⟨_, _, _, zs.take len', rfl, .inr (.inr ⟨b, off, cap', ?_, ?_, hm, fun i hi => ?_⟩), fun x hx => u8_bd (hwz x (List.mem_of_mem_take hx))⟩
      · simp [hz, hl]
      · simp; omega
      · simp at hi
        rw [hc i (by omega), gB_take _ _ _ (by omega)]
        rfl
theorem open_access {H : Type} {enc : TypeId × Value → H} {W : World} {base : Nat} {v : Value} {d : DataW H} {p : List MemPlace}
    (hval : Value.okWide Tryz.prog W .any base 37 v) (h : DataW.Trod enc Tryz.prog W 0 (fun _ => true) true 37 v d p) :
    ∃ (k a n x y : Int) (s0 : Option Addr) (sl sc : Nat) (l : List Int), v = .agg #[.int .i64 k, .int .i64 a, .int .i64 n, .int .u64 x, .int .u64 y, .slice s0 sl sc] ∧ (Lit.int .i64 k).wf = true ∧ (Lit.int .i64 a).wf = true ∧ (Lit.int .i64 n).wf = true ∧ (Lit.int .u64 x).wf = true ∧ (Lit.int .u64 y).wf = true ∧ RdB W (.slice s0 sl sc) l ∧ IsB l := by
  obtain ⟨cs, rfl, hs, fuel, hf⟩ := open_fields Tryz.underlying37 hval h
  rw [cellsAcc] at hs
  obtain ⟨c0, c1, c2, c3, c4, c5, rfl⟩ := arr6 hs
  simp only [List.mem_cons, List.not_mem_nil, or_false, forall_eq_or_imp, forall_eq, cellsAI, cellsAU, cellsAS] at hf
  obtain ⟨⟨y0, h0⟩, ⟨y1, h1⟩, ⟨y2, h2⟩, ⟨y3, h3⟩, ⟨y4, h4⟩, ⟨y5, h5⟩⟩ := hf
  simp at h0 h1 h2 h3 h4 h5
  obtain ⟨k, rfl, w0⟩ := int_of Tryz.underlying3 h0
  obtain ⟨a, rfl, w1⟩ := int_of Tryz.underlying3 h1
  obtain ⟨n, rfl, w2⟩ := int_of Tryz.underlying3 h2
  obtain ⟨x, rfl, w3⟩ := int_of Tryz.underlying31 h3
  obtain ⟨y, rfl, w4⟩ := int_of Tryz.underlying31 h4
  obtain ⟨s0, sl, sc, l, rfl, hr, hb⟩ := bytes_at h5
  exact ⟨k, a, n, x, y, s0, sl, sc, l, rfl, w0, w1, w2, w3, w4, hr, hb⟩
theorem cellsAns : Tryz.prog.cellsOf 33 = 3 := by kernel_rfl
theorem cellsAB : Tryz.prog.cellsOf 4 = 1 := by kernel_rfl
theorem arr3 {α : Type} {cs : Array α} (h : cs.size = 3) : ∃ a b c, cs = #[a, b, c] := by
  match cs, h with
  | ⟨[a, b, c]⟩, _ => exact ⟨a, b, c, rfl⟩
theorem open_answer {H : Type} {enc : TypeId × Value → H} {W : World} {base : Nat} {v : Value} {d : DataW H} {p : List MemPlace}
    (hval : Value.okWide Tryz.prog W .any base 33 v) (h : DataW.Trod enc Tryz.prog W 0 (fun _ => true) true 33 v d p) :
    ∃ (x : Int) (dn : Bool) (s0 : Option Addr) (sl sc : Nat) (l : List Int), v = .agg #[.int .u64 x, .bool dn, .slice s0 sl sc] ∧ (Lit.int .u64 x).wf = true ∧ RdB W (.slice s0 sl sc) l ∧ IsB l := by
  obtain ⟨cs, rfl, hs, fuel, hf⟩ := open_fields Tryz.underlying33 hval h
  rw [cellsAns] at hs
  obtain ⟨c0, c1, c2, rfl⟩ := arr3 hs
  simp only [List.mem_cons, List.not_mem_nil, or_false, forall_eq_or_imp, forall_eq, cellsAB, cellsAU, cellsAS] at hf
  obtain ⟨⟨y0, h0⟩, ⟨y1, h1⟩, ⟨y2, h2⟩⟩ := hf
  simp at h0 h1 h2
  obtain ⟨x, rfl, w0⟩ := int_of Tryz.underlying31 h0
  obtain ⟨dn, e1, _⟩ := DataW.trod_bool Tryz.underlying4 h1
  simp at e1
  subst e1
  obtain ⟨s0, sl, sc, l, rfl, hr, hb⟩ := bytes_at h2
  exact ⟨x, dn, s0, sl, sc, l, rfl, w0, hr, hb⟩
end Go.Proofs.YtpicplkbblmbeaaGreat
