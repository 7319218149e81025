/- How arguments of the types api.Access and api.Answer are opened. Conditions: none. -/
import Derived.Test.YtknahaaefmlcpaaGreatOp
import Derived.Test.YtknahaaefmlcpaaGreatKc
import Derived.Deep.Slices
import Derived.Test.YtknahaaefmlcpaaGreatTc
section
namespace Go.Proofs.YtknahaaefmlcpaaGreat
set_option maxRecDepth 100000
open Go.ChangeShapes Go.WideShapes Go.ChangeAt Go.RowKit
theorem cellsAcc : Tryz.prog.cellsOf 37 = 6 := by kernel_rfl
theorem cellsAI : Tryz.prog.cellsOf 3 = 1 := by kernel_rfl
theorem cellsAU : Tryz.prog.cellsOf 31 = 1 := by kernel_rfl
theorem cellsAS : Tryz.prog.cellsOf 22 = 1 := by kernel_rfl
theorem cellsA8 : Tryz.prog.cellsOf 5 = 1 := by kernel_rfl
theorem bytes_at {H : Type} {enc : TypeId × Value → H} {W : World} {fuel : Nat} {c : Value} {y : DataW H × List MemPlace} (h : DataW.trod enc Tryz.prog W 0 (fun _ => true) true fuel 22 [c] = some y) :
  ∃ a0 n cap l, c = .slice a0 n cap ∧ RdB W c l ∧ IsB l := by
 rcases open_ints Tryz.underlying22 Tryz.underlying5 cellsA8 h with ⟨hcs, hx⟩ | ⟨a, len', cap', zs, hcs, _, hl, hm, hz, hx, hcell, hwz⟩
 ·simp at hcs
  subst hcs
  exact ⟨none, 0, 0, [], rfl, .inl ⟨rfl, rfl⟩, IsB.nil⟩
 ·simp at hcs
  subst hcs
  simp only [if_true] at hz
  by_cases h0 : len' = 0
  ·subst h0
   exact ⟨_, _, _, [], rfl, .inr (.inl ⟨a, cap', rfl, rfl, hm⟩), IsB.nil⟩
  ·obtain ⟨b, off, rfl, hc⟩ := ints_at hcell (by omega)
   refine ⟨_, _, _, zs.take len', rfl, .inr (.inr ⟨b, off, cap', ?_, ?_, hm, fun i hi => ?_⟩), fun x hx => u8_bd (hwz x (List.mem_of_mem_take hx))⟩
   ·simp [hz, hl]
   ·simp; omega
   ·simp at hi
    rw [hc i (by omega), gB_take _ _ _ (by omega)]
    rfl
theorem open_access {H : Type} {enc : TypeId × Value → H} {W : World} {base : Nat} {v : Value} {d : DataW H} {p : List MemPlace}
  (hval : Value.okWide Tryz.prog W .any base 37 v) (h : DataW.Trod enc Tryz.prog W 0 (fun _ => true) true 37 v d p) :
  ∃ (k a n x y : Int) (s0 : Option Addr) (sl sc : Nat) (l : List Int), v = .agg #[.int .i64 k, .int .i64 a, .int .i64 n, .int .u64 x, .int .u64 y, .slice s0 sl sc] ∧ (Lit.int .i64 k).wf = true ∧ (Lit.int .i64 a).wf = true ∧ (Lit.int .i64 n).wf = true ∧ (Lit.int .u64 x).wf = true ∧ (Lit.int .u64 y).wf = true ∧ RdB W (.slice s0 sl sc) l ∧ IsB l := by
 obtain ⟨cs, rfl, hs, fuel, hf⟩ := open_fields Tryz.underlying37 hval h
 rw [cellsAcc] at hs
 obtain ⟨c0, c1, c2, c3, c4, c5, rfl⟩ := arr6 hs
 simp only [List.mem_cons, List.not_mem_nil, or_false, forall_eq_or_imp, forall_eq, cellsAI, cellsAU, cellsAS] at hf
 obtain ⟨⟨y0, h0⟩, ⟨y1, h1⟩, ⟨y2, h2⟩, ⟨y3, h3⟩, ⟨y4, h4⟩, ⟨y5, h5⟩⟩ := hf
 simp at h0 h1 h2 h3 h4 h5
 obtain ⟨k, rfl, w0⟩ := int_of Tryz.underlying3 h0
 obtain ⟨a, rfl, w1⟩ := int_of Tryz.underlying3 h1
 obtain ⟨n, rfl, w2⟩ := int_of Tryz.underlying3 h2
 obtain ⟨x, rfl, w3⟩ := int_of Tryz.underlying31 h3
 obtain ⟨y, rfl, w4⟩ := int_of Tryz.underlying31 h4
 obtain ⟨s0, sl, sc, l, rfl, hr, hb⟩ := bytes_at h5
 exact ⟨k, a, n, x, y, s0, sl, sc, l, rfl, w0, w1, w2, w3, w4, hr, hb⟩
theorem cellsAns : Tryz.prog.cellsOf 33 = 3 := by kernel_rfl
theorem cellsAB : Tryz.prog.cellsOf 4 = 1 := by kernel_rfl
open Go.ChangeShapes Go.WideShapes Go.ChangeAt Go.RowKit
set_option linter.unusedVariables false
def RdR (w : World) (v : Value) (k : Nat) (L : List (List Value)) : Prop :=
 (v = .slice none 0 0 ∧ L = []) ∨ (∃ a cap, v = .slice (some a) 0 cap ∧ L = [] ∧ cap ≤ maxLen) ∨
 ∃ b off cap, v = .slice (some ⟨b, off, none⟩) L.length cap ∧ L.length ≤ cap ∧ cap ≤ maxLen ∧ ∀ (i : Nat) (l : List Value), L[i]? = some l → ∀ (j : Nat) (u : Value), l[j]? = some u → w.cell? ⟨b, off + i * k + j, none⟩ = some u
theorem choose_row (α : Type) (P : Nat → α → Prop) : ∀ n, (∀ i, i < n → ∃ x, P i x) → ∃ T : List α, T.length = n ∧ ∀ i x, T[i]? = some x → P i x
 | 0, _ => ⟨[], rfl, fun i x hi => by simp at hi⟩
 | n + 1, h => by
  obtain ⟨T, hl, hT⟩ := choose_row α P n (fun i hi => h i (by omega))
  obtain ⟨x, hx⟩ := h n (by omega)
  refine ⟨T ++ [x], by simp [hl], fun i y hy => ?_⟩
  by_cases e : i < T.length
  ·rw [List.getElem?_append_left e] at hy
   exact hT i y hy
  ·have hi := (List.getElem?_eq_some_iff.1 hy).1
   simp only [List.length_append, List.length_cons, List.length_nil] at hi
   obtain rfl : i = T.length := by omega
   simp at hy
   rw [← hy, hl]
   exact hx
theorem open_rows {H : Type} {enc : TypeId × Value → H} {W : World} {base : Nat} {v : Value} {d : DataW H} {p : List MemPlace} {t e : TypeId} (k : Nat) (ht : Tryz.prog.underlying t = some (.slice e)) (hk : Tryz.prog.cellsOf e = k) (hk0 : 0 < k)
  (hval : Value.okWide Tryz.prog W .any base t v) (h : DataW.Trod enc Tryz.prog W 0 (fun _ => true) true t v d p) :
  ∃ L : List (List Value), RdR W v k L ∧ ∀ (i : Nat) (l : List Value), L[i]? = some l → l.length = k ∧ ∃ fuel y, DataW.trod enc Tryz.prog W 0 (fun _ => true) true fuel e l = some y := by
 obtain ⟨a0, len, cap, rfl⟩ := okWide_slice ht hval
 obtain ⟨fuel, hf⟩ := h
 rcases Go.Deep.open_slice ht hf with ⟨hcs, _⟩ | ⟨a, len', cap', m, n, D, Pl, hcs, _, hl, hm, hmm, hx, hi⟩
 ·simp [Value.cells] at hcs
  obtain ⟨rfl, rfl, rfl⟩ := hcs
  exact ⟨[], .inl ⟨rfl, rfl⟩, fun i l hi => by simp at hi⟩
 ·simp [Value.cells] at hcs
  obtain ⟨rfl, rfl, rfl⟩ := hcs
  by_cases h0 : len = 0
  ·subst h0
   exact ⟨[], .inr (.inl ⟨a, cap, rfl, rfl, hm⟩), fun i l hi => by simp at hi⟩
  ·have hlm : len ≤ m := by
    rw [hmm]
    split <;> omega
   have key : ∀ i, i < len → ∃ x : List Value, (∀ j u, x[j]? = some u → W.cell? ((a.add (i * k)).add j) = some u) ∧ x.length = k ∧ ∃ fuel y, DataW.trod enc Tryz.prog W 0 (fun _ => true) true fuel e x = some y := by
    intro i hil
    obtain ⟨cs', hc, ht'⟩ := hi i (by omega)
    rw [hk] at hc
    obtain ⟨_, hcl, hat⟩ := World.cells?_some hc
    refine ⟨cs', fun j u hj => ?_, hcl, _, _, ht'⟩
    have hj' := (List.getElem?_eq_some_iff.1 hj).1
    have := hat j (by omega)
    rw [this]
    exact hj
   obtain ⟨L, hLl, hL⟩ := choose_row _ _ len key
   obtain ⟨b, off, spot⟩ := a
   have hspot : spot = none := by
    obtain ⟨x, hx0⟩ : ∃ x, L[0]? = some x := ⟨_, List.getElem?_eq_getElem (by omega)⟩
    obtain ⟨h1, h2, _⟩ := hL 0 x hx0
    have := h1 0 (x[0]'(by omega)) (List.getElem?_eq_getElem (by omega))
    simpa [Addr.add] using World.cell?_spot this
   subst hspot
   refine ⟨L, .inr <| .inr ⟨b, off, cap, by rw [hLl], by omega, hm, fun i l hi j u hj => ?_⟩, fun i l hi => (hL i l hi).2⟩
   have := (hL i l hi).1 j u hj
   rw [Go.WideShapes.add_plain, Go.WideShapes.add_plain] at this
   exact this
theorem rows_map {α : Type} (P : α → Prop) (f : α → List Value) (L : List (List Value)) (h : ∀ (i : Nat) (l : List Value), L[i]? = some l → ∃ x, l = f x ∧ P x) : ∃ T : List α, L = T.map f ∧ ∀ x ∈ T, P x := by
 obtain ⟨T, hl, hT⟩ := choose_row α (fun i x => L[i]? = some (f x) ∧ P x) L.length (fun i hi => by
  obtain ⟨x, e, hp⟩ := h i L[i] (List.getElem?_eq_getElem hi)
  exact ⟨x, by rw [List.getElem?_eq_getElem hi, e], hp⟩)
 refine ⟨T, ?_, fun x hx => ?_⟩
 ·apply List.ext_getElem?
  intro i
  rw [List.getElem?_map]
  by_cases hi : i < T.length
  ·have := hT i T[i] (List.getElem?_eq_getElem hi)
   rw [this.1, List.getElem?_eq_getElem hi]
   rfl
  ·rw [List.getElem?_eq_none (by omega), List.getElem?_eq_none (by omega)]
   rfl
 ·obtain ⟨i, hi, rfl⟩ := List.getElem_of_mem hx
  exact (hT i _ (List.getElem?_eq_getElem hi)).2
end Go.Proofs.YtknahaaefmlcpaaGreat
end
section
section
namespace Go.Proofs.YtknahaaefmlcpaaGreat
set_option maxRecDepth 100000
open Go.ChangeShapes Go.WideShapes Go.ChangeAt Go.RowKit
theorem choose_list (P : Nat → AnsV → Prop) : ∀ n, (∀ i, i < n → ∃ x, P i x) → ∃ T : List AnsV, T.length = n ∧ ∀ i, i < n → P i (gA T i)
 | 0, _ => ⟨[], rfl, fun i hi => by omega⟩
 | n + 1, h => by
  obtain ⟨T, hl, hT⟩ := choose_list P n (fun i hi => h i (by omega))
  obtain ⟨x, hx⟩ := h n (by omega)
  refine ⟨T ++ [x], by simp [hl], fun i hi => ?_⟩
  by_cases e : i = n
  ·subst e
   have : gA (T ++ [x]) i = x := by simp [gA, List.getD, ← hl]
   rw [this]
   exact hx
  ·have : gA (T ++ [x]) i = gA T i := by
    have h1 : i < T.length := by omega
    simp [gA, List.getD, List.getElem?_append_left h1]
   rw [this]
   exact hT i (by omega)
theorem fields_of {H : Type} {enc : TypeId × Value → H} {P : Program} {W : World} {t : TypeId} {fs : Array Field} {cs : List Value} {y : DataW H × List MemPlace} {fuel : Nat} (ht : P.underlying t = some (.struct fs))
  (h : DataW.trod enc P W 0 (fun _ => true) true fuel t cs = some y) :
  ∃ fuel', ∀ f ∈ fs.toList, ∃ y, DataW.trod enc P W 0 (fun _ => true) true fuel' f.type ((cs.drop f.offset).take (P.cellsOf f.type)) = some y := by
 obtain ⟨xs, n, -, -, -, hx, hg⟩ := DataW.trod_struct ht h
 refine ⟨n, fun f hfm => ?_⟩
 obtain ⟨i, hi, rfl⟩ := List.getElem_of_mem hfm
 have hi' : i < fs.size := by simpa using hi
 have := hg i fs[i] (by simp [hi'])
 exact ⟨xs[i]'(by omega), by simpa [hx, hi'] using this⟩
theorem open_answers {H : Type} {enc : TypeId × Value → H} {W : World} {base : Nat} {v : Value} {d : DataW H} {p : List MemPlace}
  (hval : Value.okWide Tryz.prog W .any base 40 v) (h : DataW.Trod enc Tryz.prog W 0 (fun _ => true) true 40 v d p) :
  ∃ (t0 : Option Addr) (tn tc : Nat) (T : List AnsV), v = .slice t0 tn tc ∧ RdA W (.slice t0 tn tc) T ∧ AnsIs W T := by
 obtain ⟨a0, len, cap, rfl⟩ := okWide_slice Tryz.underlying40 hval
 obtain ⟨fuel, hf⟩ := h
 rcases Go.Deep.open_slice Tryz.underlying40 hf with ⟨hcs, _⟩ | ⟨a, len', cap', m, n, D, Pl, hcs, _, hl, hm, hmm, hx, hi⟩
 ·simp [Value.cells] at hcs
  obtain ⟨rfl, rfl, rfl⟩ := hcs
  exact ⟨none, 0, 0, [], rfl, .inl ⟨rfl, rfl⟩, fun i hi => by cases hi⟩
 ·simp [Value.cells] at hcs
  obtain ⟨rfl, rfl, rfl⟩ := hcs
  by_cases h0 : len = 0
  ·subst h0
   exact ⟨_, _, _, [], rfl, .inr (.inl ⟨a, cap, rfl, rfl, hm⟩), fun i hi => by cases hi⟩
  ·have hlm : len ≤ m := by
    rw [hmm]
    split <;> omega
   have key : ∀ i, i < len → ∃ x : AnsV, (W.cell? (a.add (i * 3)) = some (.int .u64 x.v) ∧ W.cell? ((a.add (i * 3)).add 1) = some (.bool x.d) ∧ W.cell? ((a.add (i * 3)).add 2) = some x.s) ∧ (∃ a n c, x.s = .slice a n c) ∧ RdB W x.s x.b ∧ IsB x.b ∧ (Lit.int .u64 x.v).wf = true := by
    intro i hil
    obtain ⟨cs', hc, ht'⟩ := hi i (by omega)
    rw [cellsAns] at hc
    obtain ⟨_, hcl, hat⟩ := World.cells?_some hc
    obtain ⟨c0, c1, c2, rfl⟩ : ∃ c0 c1 c2, cs' = [c0, c1, c2] := by
     match cs', hcl with
     | [c0, c1, c2], _ => exact ⟨c0, c1, c2, rfl⟩
    obtain ⟨fu, hfs⟩ := fields_of Tryz.underlying33 ht'
    simp only [List.mem_cons, List.not_mem_nil, or_false, forall_eq_or_imp, forall_eq, cellsAB, cellsAU, cellsAS] at hfs
    obtain ⟨⟨y0, h0⟩, ⟨y1, h1⟩, ⟨y2, h2⟩⟩ := hfs
    simp at h0 h1 h2
    obtain ⟨x, rfl, w0⟩ := int_of Tryz.underlying31 h0
    obtain ⟨dn, e1, _⟩ := DataW.trod_bool Tryz.underlying4 h1
    simp at e1
    subst e1
    obtain ⟨s0, sl, sc, l, rfl, hr, hb⟩ := bytes_at h2
    refine ⟨⟨x, dn, .slice s0 sl sc, l⟩, ⟨?_, hat 1 (by omega), hat 2 (by omega)⟩, ⟨_, _, _, rfl⟩, hr, hb, w0⟩
    have := hat 0 (by omega)
    simpa [Addr.add] using this
   obtain ⟨T, hTl, hT⟩ := choose_list _ len key
   obtain ⟨b, off, spot⟩ := a
   have hspot : spot = none := by simpa [Addr.add] using World.cell?_spot (hT 0 (by omega)).1.1
   subst hspot
   refine ⟨_, _, _, T, rfl, .inr <| .inr ⟨b, off, cap, by rw [hTl], by omega, hm, fun i hi => ?_⟩, fun i hi => (hT i (by omega)).2⟩
   obtain ⟨e0, e1, e2⟩ := (hT i (by omega)).1
   rw [Go.WideShapes.add_plain] at e0 e1 e2
   rw [Go.WideShapes.add_plain] at e1 e2
   exact ⟨e0, e1, e2⟩
open Go.ChangeShapes Go.WideShapes Go.ChangeAt Go.RowKit
theorem cellsRing : Tryz.prog.cellsOf 26 = 2 := by kernel_rfl
theorem cellsIntR : Tryz.prog.cellsOf 3 = 1 := by kernel_rfl
theorem open_ring {H : Type} {enc : TypeId × Value → H} {W : World} {base : Nat} {v : Value} {d : DataW H} {p : List MemPlace}
  (hval : Value.okWide Tryz.prog W .any base 26 v) (h : DataW.Trod enc Tryz.prog W 0 (fun _ => true) true 26 v d p) :
  ∃ b s : Int, v = .agg #[.int .i64 b, .int .i64 s] ∧ (Lit.int .i64 b).wf = true ∧ (Lit.int .i64 s).wf = true := by
 obtain ⟨cs, rfl, hs, fuel, hf⟩ := open_fields Tryz.underlying26 hval h
 rw [cellsRing] at hs
 obtain ⟨c0, c1, rfl⟩ : ∃ c0 c1, cs = #[c0, c1] := by
  obtain ⟨l⟩ := cs
  match l, hs with
  | [a, b], _ => exact ⟨a, b, rfl⟩
 simp only [List.mem_cons, List.not_mem_nil, or_false, forall_eq_or_imp, forall_eq, cellsIntR] at hf
 obtain ⟨⟨y0, h0⟩, ⟨y1, h1⟩⟩ := hf
 simp at h0 h1
 obtain ⟨b, rfl, w0⟩ := int_of Tryz.underlying3 h0
 obtain ⟨s, rfl, w1⟩ := int_of Tryz.underlying3 h1
 exact ⟨b, s, rfl, w0, w1⟩
end Go.Proofs.YtknahaaefmlcpaaGreat
end
end
section
namespace Go.Proofs.YtknahaaefmlcpaaGreat
set_option maxRecDepth 100000
open Go.ChangeShapes Go.WideShapes Go.ChangeAt Go.RowKit
set_option linter.unusedVariables false
structure BytV where
 s : Value
 b : List Int
def BytV.cs (x : BytV) : List Value := [x.s]
structure BytV.Ok (w : World) (x : BytV) : Prop where
 s : ∃ a n c, x.s = .slice a n c
 r : RdB w x.s x.b
 b : IsB x.b
end Go.Proofs.YtknahaaefmlcpaaGreat
end
