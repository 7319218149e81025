/- How an argument that is a slice of answers is opened. Conditions: none. How an argument of the type api.Ring is opened. Conditions: none. -/
import Derived.Test.YtpicplkbblmbeaaGreatOa
import Derived.Test.YtpicplkbblmbeaaGreatTc
import Derived.Deep.Slices
import Derived.Test.YtpicplkbblmbeaaGreatOp
section
namespace Go.Proofs.YtpicplkbblmbeaaGreat
set_option maxRecDepth 100000
open Go.ChangeShapes Go.WideShapes Go.ChangeAt Go.RowKit
theorem choose_list (P : Nat → AnsV → Prop) : ∀ n, (∀ i, i < n → ∃ x, P i x) → ∃ T : List AnsV, T.length = n ∧ ∀ i, i < n → P i (gA T i)
  | 0, _ => ⟨[], rfl, fun i hi => by omega⟩
  | n + 1, h => by
    obtain ⟨T, hl, hT⟩ := choose_list P n (fun i hi => h i (by omega))
    obtain ⟨x, hx⟩ := h n (by omega)
    refine ⟨T ++ [x], by simp [hl], fun i hi => ?_⟩
    by_cases e : i = n
    · subst e
      have : gA (T ++ [x]) i = x := by simp [gA, List.getD, ← hl]
      rw [this]
      exact hx
    · have : gA (T ++ [x]) i = gA T i := by
        have h1 : i < T.length := by omega
        simp [gA, List.getD, List.getElem?_append_left h1]
      rw [this]
      exact hT i (by omega)
/-- A struct's fields, from its cells. -/
theorem fields_of {H : Type} {enc : TypeId × Value → H} {P : Program} {W : World} {t : TypeId} {fs : Array Field} {cs : List Value} {y : DataW H × List MemPlace} {fuel : Nat} (ht : P.underlying t = some (.struct fs))
    (h : DataW.trod enc P W 0 (fun _ => true) true fuel t cs = some y) :
    ∃ fuel', ∀ f ∈ fs.toList, ∃ y, DataW.trod enc P W 0 (fun _ => true) true fuel' f.type ((cs.drop f.offset).take (P.cellsOf f.type)) = some y := by
  obtain ⟨xs, n, -, -, -, hx, hg⟩ := DataW.trod_struct ht h
  refine ⟨n, fun f hfm => ?_⟩
  obtain ⟨i, hi, rfl⟩ := List.getElem_of_mem hfm
  have hi' : i < fs.size := by simpa using hi
  have := hg i fs[i] (by simp [hi'])
  exact ⟨xs[i]'(by omega), by simpa [hx, hi'] using this⟩
theorem open_answers {H : Type} {enc : TypeId × Value → H} {W : World} {base : Nat} {v : Value} {d : DataW H} {p : List MemPlace}
    (hval : Value.okWide Tryz.prog W .any base 40 v) (h : DataW.Trod enc Tryz.prog W 0 (fun _ => true) true 40 v d p) :
    ∃ (t0 : Option Addr) (tn tc : Nat) (T : List AnsV), v = .slice t0 tn tc ∧ RdA W (.slice t0 tn tc) T ∧ AnsIs W T := by
  obtain ⟨a0, len, cap, rfl⟩ := okWide_slice Tryz.underlying40 hval
  obtain ⟨fuel, hf⟩ := h
  rcases Go.Deep.open_slice Tryz.underlying40 hf with ⟨hcs, _⟩ | ⟨a, len', cap', m, n, D, Pl, hcs, _, hl, hm, hmm, hx, hi⟩
  · simp [Value.cells] at hcs
    obtain ⟨rfl, rfl, rfl⟩ := hcs
    exact ⟨none, 0, 0, [], rfl, .inl ⟨rfl, rfl⟩, fun i hi => by cases hi⟩
  · simp [Value.cells] at hcs
    obtain ⟨rfl, rfl, rfl⟩ := hcs
    by_cases h0 : len = 0
    · subst h0
      exact ⟨_, _, _, [], rfl, .inr (.inl ⟨a, cap, rfl, rfl, hm⟩), fun i hi => by cases hi⟩
    · have hlm : len ≤ m := by
        rw [hmm]
        split <;> omega
      have key : ∀ i, i < len → ∃ x : AnsV, (W.cell? (a.add (i * 3)) = some (.int .u64 x.v) ∧ W.cell? ((a.add (i * 3)).add 1) = some (.bool x.d) ∧ W.cell? ((a.add (i * 3)).add 2) = some x.s) ∧ (∃ a n c, x.s = .slice a n c) ∧ RdB W x.s x.b ∧ IsB x.b ∧ (Lit.int .u64 x.v).wf = true := by
        intro i hil
        obtain ⟨cs', hc, ht'⟩ := hi i (by omega)
        rw [cellsAns] at hc
        obtain ⟨_, hcl, hat⟩ := World.cells?_some hc
        obtain ⟨c0, c1, c2, rfl⟩ : ∃ c0 c1 c2, cs' = [c0, c1, c2] := by
          match cs', hcl with
          | [c0, c1, c2], _ => exact ⟨c0, c1, c2, rfl⟩
        obtain ⟨fu, hfs⟩ := fields_of Tryz.underlying33 ht'
        simp only [List.mem_cons, List.not_mem_nil, or_false, forall_eq_or_imp, forall_eq, cellsAB, cellsAU, cellsAS] at hfs
        obtain ⟨⟨y0, h0⟩, ⟨y1, h1⟩, ⟨y2, h2⟩⟩ := hfs
        simp at h0 h1 h2
        obtain ⟨x, rfl, w0⟩ := int_of Tryz.underlying31 h0
        obtain ⟨dn, e1, _⟩ := DataW.trod_bool Tryz.underlying4 h1
        simp at e1
        subst e1
        obtain ⟨s0, sl, sc, l, rfl, hr, hb⟩ := bytes_at h2
        refine ⟨⟨x, dn, .slice s0 sl sc, l⟩, ⟨?_, hat 1 (by omega), hat 2 (by omega)⟩, ⟨_, _, _, rfl⟩, hr, hb, w0⟩
        have := hat 0 (by omega)
        simpa [Addr.add] using this
      obtain ⟨T, hTl, hT⟩ := choose_list _ len key
      obtain ⟨b, off, spot⟩ := a
      have hspot : spot = none := by simpa [Addr.add] using World.cell?_spot (hT 0 (by omega)).1.1
      subst hspot
      refine ⟨_, _, _, T, rfl, .inr <| .inr ⟨b, off, cap, by rw [hTl], by omega, hm, fun i hi => ?_⟩, fun i hi => (hT i (by omega)).2⟩
      obtain ⟨e0, e1, e2⟩ := (hT i (by omega)).1
      rw [Go.WideShapes.add_plain] at e0 e1 e2
      rw [Go.WideShapes.add_plain] at e1 e2
      exact ⟨e0, e1, e2⟩
end Go.Proofs.YtpicplkbblmbeaaGreat
end
section
namespace Go.Proofs.YtpicplkbblmbeaaGreat
set_option maxRecDepth 100000
open Go.ChangeShapes Go.WideShapes Go.ChangeAt Go.RowKit
theorem cellsRing : Tryz.prog.cellsOf 26 = 2 := by kernel_rfl
theorem cellsIntR : Tryz.prog.cellsOf 3 = 1 := by kernel_rfl
theorem open_ring {H : Type} {enc : TypeId × Value → H} {W : World} {base : Nat} {v : Value} {d : DataW H} {p : List MemPlace}
    (hval : Value.okWide Tryz.prog W .any base 26 v) (h : DataW.Trod enc Tryz.prog W 0 (fun _ => true) true 26 v d p) :
    ∃ b s : Int, v = .agg #[.int .i64 b, .int .i64 s] ∧ (Lit.int .i64 b).wf = true ∧ (Lit.int .i64 s).wf = true := by
  obtain ⟨cs, rfl, hs, fuel, hf⟩ := open_fields Tryz.underlying26 hval h
  rw [cellsRing] at hs
  obtain ⟨c0, c1, rfl⟩ : ∃ c0 c1, cs = #[c0, c1] := by
    obtain ⟨l⟩ := cs
    match l, hs with
    | [a, b], _ => exact ⟨a, b, rfl⟩
  simp only [List.mem_cons, List.not_mem_nil, or_false, forall_eq_or_imp, forall_eq, cellsIntR] at hf
  obtain ⟨⟨y0, h0⟩, ⟨y1, h1⟩⟩ := hf
  simp at h0 h1
  obtain ⟨b, rfl, w0⟩ := int_of Tryz.underlying3 h0
  obtain ⟨s, rfl, w1⟩ := int_of Tryz.underlying3 h1
  exact ⟨b, s, rfl, w0, w1⟩
end Go.Proofs.YtpicplkbblmbeaaGreat
end
