/- Slices of structs: how they read, and how an argument of such a type is opened. Conditions: none. -/
import Derived.Test.YtpicplkbblmbeaaOp
import Derived.Test.YtpicplkbblmbeaaKp
import Derived.Deep.Slices
namespace Go.Proofs.Ytpicplkbblmbeaa
set_option maxRecDepth 100000
open Go.ChangeShapes Go.WideShapes Go.ChangeAt Go.RowKit
set_option linter.unusedVariables false
/-- A slice value reads as a row of elements, of k cells each. -/
def RdR (w : World) (v : Value) (k : Nat) (L : List (List Value)) : Prop :=
  (v = .slice none 0 0 ∧ L = []) ∨ (∃ a cap, v = .slice (some a) 0 cap ∧ L = [] ∧ cap ≤ maxLen) ∨
  ∃ b off cap, v = .slice (some ⟨b, off, none⟩) L.length cap ∧ L.length ≤ cap ∧ cap ≤ maxLen ∧ ∀ (i : Nat) (l : List Value), L[i]? = some l → ∀ (j : Nat) (u : Value), l[j]? = some u → w.cell? ⟨b, off + i * k + j, none⟩ = some u
theorem RdR.keep {w w' : World} {v : Value} {k : Nat} {L : List (List Value)} {M : Nat → Prop} (h : RdR w v k L) (kp : Keep M w w') (hd : L.length ≠ 0 → ∀ i, v.ownBlock = some i → ¬ M i) : RdR w' v k L := by
  rcases h with h | h | ⟨b, off, cap, e1, e2, e3, e4⟩
  · exact .inl h
  · exact .inr (.inl h)
  · refine .inr <| .inr ⟨b, off, cap, e1, e2, e3, fun i l hi j u hj => ?_⟩
    have hc := e4 i l hi j u hj
    have hl : L.length ≠ 0 := by have := (List.getElem?_eq_some_iff.1 hi).1; omega
    exact (kp.cell _ (World.block_lt_of_cell? w _ hc) (hd hl b (by rw [e1]; rfl))).trans hc
theorem RdR.below {w w' : World} {v : Value} {k : Nat} {L : List (List Value)} (h : RdR w v k L) (b : Below w.heap.size w w') : RdR w' v k L := h.keep (M := fun _ => False) (Below.keeps b) (fun _ _ _ => id)
theorem RdR.sl {w : World} {v : Value} {k : Nat} {L : List (List Value)} (h : RdR w v k L) : ∃ a c, v = .slice a L.length c := by
  rcases h with ⟨rfl, rfl⟩ | ⟨a, cap, rfl, rfl, hm⟩ | ⟨b, off, cap, rfl, hc, hm, hcell⟩
  · exact ⟨_, _, rfl⟩
  · exact ⟨_, _, rfl⟩
  · exact ⟨_, _, rfl⟩
theorem RdR.row {w : World} {v : Value} {k : Nat} {L : List (List Value)} (h : RdR w v k L) (h0 : 0 < L.length) : ∃ b off cap, v = .slice (some ⟨b, off, none⟩) L.length cap ∧ L.length ≤ cap ∧ cap ≤ maxLen ∧ ∀ (i : Nat) (l : List Value), L[i]? = some l → ∀ (j : Nat) (u : Value), l[j]? = some u → w.cell? ⟨b, off + i * k + j, none⟩ = some u := by
  rcases h with ⟨_, rfl⟩ | ⟨_, _, _, rfl, _⟩ | h
  · cases h0
  · cases h0
  · exact h
theorem choose_row (α : Type) (P : Nat → α → Prop) : ∀ n, (∀ i, i < n → ∃ x, P i x) → ∃ T : List α, T.length = n ∧ ∀ i x, T[i]? = some x → P i x
  | 0, _ => ⟨[], rfl, fun i x hi => by simp at hi⟩
  | n + 1, h => by
    obtain ⟨T, hl, hT⟩ := choose_row α P n (fun i hi => h i (by omega))
    obtain ⟨x, hx⟩ := h n (by omega)
    refine ⟨T ++ [x], by simp [hl], fun i y hy => ?_⟩
    by_cases e : i < T.length
    · rw [List.getElem?_append_left e] at hy
      exact hT i y hy
    · have hi := (List.getElem?_eq_some_iff.1 hy).1
      simp only [List.length_append, List.length_cons, List.length_nil] at hi
      obtain rfl : i = T.length := by omega
      simp at hy
      rw [← hy, hl]
      exact hx
/-- The elements of a slice argument, each with its own reading. -/
theorem open_rows {H : Type} {enc : TypeId × Value → H} {W : World} {base : Nat} {v : Value} {d : DataW H} {p : List MemPlace} {t e : TypeId} (k : Nat) (ht : Try.prog.underlying t = some (.slice e)) (hk : Try.prog.cellsOf e = k) (hk0 : 0 < k)
    (hval : Value.okWide Try.prog W .any base t v) (h : DataW.Trod enc Try.prog W 0 (fun _ => true) true t v d p) :
    ∃ L : List (List Value), RdR W v k L ∧ ∀ (i : Nat) (l : List Value), L[i]? = some l → l.length = k ∧ ∃ fuel y, DataW.trod enc Try.prog W 0 (fun _ => true) true fuel e l = some y := by
  obtain ⟨a0, len, cap, rfl⟩ := okWide_slice ht hval
  obtain ⟨fuel, hf⟩ := h
  rcases Go.Deep.open_slice ht hf with ⟨hcs, _⟩ | ⟨a, len', cap', m, n, D, Pl, hcs, _, hl, hm, hmm, hx, hi⟩
  · simp [Value.cells] at hcs
    obtain ⟨rfl, rfl, rfl⟩ := hcs
    exact ⟨[], .inl ⟨rfl, rfl⟩, fun i l hi => by simp at hi⟩
  · simp [Value.cells] at hcs
    obtain ⟨rfl, rfl, rfl⟩ := hcs
    by_cases h0 : len = 0
    · subst h0
      exact ⟨[], .inr (.inl ⟨a, cap, rfl, rfl, hm⟩), fun i l hi => by simp at hi⟩
    · have hlm : len ≤ m := by
        rw [hmm]
        split <;> omega
      have key : ∀ i, i < len → ∃ x : List Value, (∀ j u, x[j]? = some u → W.cell? ((a.add (i * k)).add j) = some u) ∧ x.length = k ∧ ∃ fuel y, DataW.trod enc Try.prog W 0 (fun _ => true) true fuel e x = some y := by
        intro i hil
        obtain ⟨cs', hc, ht'⟩ := hi i (by omega)
        rw [hk] at hc
        obtain ⟨_, hcl, hat⟩ := World.cells?_some hc
        refine ⟨cs', fun j u hj => ?_, hcl, _, _, ht'⟩
        have hj' := (List.getElem?_eq_some_iff.1 hj).1
        have := hat j (by omega)
        rw [this]
        exact hj
      obtain ⟨L, hLl, hL⟩ := choose_row _ _ len key
      obtain ⟨b, off, spot⟩ := a
      have hspot : spot = none := by
        obtain ⟨x, hx0⟩ : ∃ x, L[0]? = some x := ⟨_, List.getElem?_eq_getElem (by omega)⟩
        obtain ⟨h1, h2, _⟩ := hL 0 x hx0
        have := h1 0 (x[0]'(by omega)) (List.getElem?_eq_getElem (by omega))
        simpa [Addr.add] using World.cell?_spot this
      subst hspot
      refine ⟨L, .inr <| .inr ⟨b, off, cap, by rw [hLl], by omega, hm, fun i l hi j u hj => ?_⟩, fun i l hi => (hL i l hi).2⟩
      have := (hL i l hi).1 j u hj
      rw [Go.WideShapes.add_plain, Go.WideShapes.add_plain] at this
      exact this
/-- The same, with what each element is. -/
theorem rows_map {α : Type} (P : α → Prop) (f : α → List Value) (L : List (List Value)) (h : ∀ (i : Nat) (l : List Value), L[i]? = some l → ∃ x, l = f x ∧ P x) : ∃ T : List α, L = T.map f ∧ ∀ x ∈ T, P x := by
  obtain ⟨T, hl, hT⟩ := choose_row α (fun i x => L[i]? = some (f x) ∧ P x) L.length (fun i hi => by
    obtain ⟨x, e, hp⟩ := h i L[i] (List.getElem?_eq_getElem hi)
    exact ⟨x, by rw [List.getElem?_eq_getElem hi, e], hp⟩)
  refine ⟨T, ?_, fun x hx => ?_⟩
  · apply List.ext_getElem?
    intro i
    rw [List.getElem?_map]
    by_cases hi : i < T.length
    · have := hT i T[i] (List.getElem?_eq_getElem hi)
      rw [this.1, List.getElem?_eq_getElem hi]
      rfl
    · rw [List.getElem?_eq_none (by omega), List.getElem?_eq_none (by omega)]
      rfl
  · obtain ⟨i, hi, rfl⟩ := List.getElem_of_mem hx
    exact (hT i _ (List.getElem?_eq_getElem hi)).2
end Go.Proofs.Ytpicplkbblmbeaa
