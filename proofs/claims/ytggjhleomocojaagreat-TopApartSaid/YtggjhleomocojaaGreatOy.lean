/- Lists of answers; the reference's tape: its Do. Conditions: as each says. The reference's tape: its In, Zero, Out. Conditions: as each says. -/
import Derived.Test.YtggjhleomocojaaGreatKc
import Derived.Deep.RegionHeld3
import Derived.Test.YtggjhleomocojaaGreatKi
import Derived.Test.YtggjhleomocojaaGreatRw
import Derived.Deep.Slices
section
namespace Go.Proofs.YtggjhleomocojaaGreat
set_option maxRecDepth 100000
open Go.RowKit
set_option linter.unusedVariables false
set_option linter.unusedSimpArgs false
structure AnsV where
 v : Int
 d : Bool
 s : Value
 b : List Int
def AnsV.V (x : AnsV) : Value := .agg #[.int .u64 x.v, .bool x.d, x.s]
theorem RdB.blk {w : World} {v : Value} {l : List Int} (h : RdB w v l) (h0 : l.length ≠ 0) : ∀ i, v.ownBlock = some i → i < w.heap.size := by
 rcases h with ⟨_, rfl⟩ | ⟨_, _, _, rfl, _⟩ | ⟨b, off, cap, e1, e2, e3, e4⟩
 ·exact absurd rfl h0
 ·exact absurd rfl h0
 ·intro i hi
  rw [e1] at hi
  obtain rfl : b = i := by simpa [Value.ownBlock] using hi
  exact World.block_lt_of_cell? w _ (e4 0 (by omega))
theorem grown_keep {w w' : World} {v : Value} (h : w.grownBy w' v.ownBlock) : Keep (fun i => v.ownBlock = some i) w w' :=
 ⟨h.os, h.tape, h.output, h.size, fun k hk hm => h.block k hk (fun e => hm e.symm)⟩
end Go.Proofs.YtggjhleomocojaaGreat
end
section
namespace Go.Proofs.YtggjhleomocojaaGreat
set_option maxRecDepth 100000
open Go.ChangeShapes Go.WideShapes Go.ChangeAt Go.RowKit
theorem cellsAS : Tryz.prog.cellsOf 32 = 1 := by kernel_rfl
theorem cellsA8 : Tryz.prog.cellsOf 5 = 1 := by kernel_rfl
theorem bytes_at {H : Type} {enc : TypeId × Value → H} {W : World} {fuel : Nat} {c : Value} {y : DataW H × List MemPlace} (h : DataW.trod enc Tryz.prog W 0 (fun _ => true) true fuel 32 [c] = some y) :
  ∃ a0 n cap l, c = .slice a0 n cap ∧ RdB W c l ∧ IsB l := by
 rcases open_ints Tryz.underlying32 Tryz.underlying5 cellsA8 h with ⟨hcs, hx⟩ | ⟨a, len', cap', zs, hcs, _, hl, hm, hz, hx, hcell, hwz⟩
 ·simp at hcs
  subst hcs
  exact ⟨none, 0, 0, [], rfl, .inl ⟨rfl, rfl⟩, IsB.nil⟩
 ·simp at hcs
  subst hcs
  simp only [if_true] at hz
  by_cases h0 : len' = 0
  ·subst h0
   exact ⟨_, _, _, [], rfl, .inr (.inl ⟨a, cap', rfl, rfl, hm⟩), IsB.nil⟩
  ·obtain ⟨b, off, rfl, hc⟩ := ints_at hcell (by omega)
   refine ⟨_, _, _, zs.take len', rfl, .inr (.inr ⟨b, off, cap', ?_, ?_, hm, fun i hi => ?_⟩), fun x hx => u8_bd (hwz x (List.mem_of_mem_take hx))⟩
   ·simp [hz, hl]
   ·simp; omega
   ·simp at hi
    rw [hc i (by omega), gB_take _ _ _ (by omega)]
    rfl
open Go.ChangeShapes Go.WideShapes Go.ChangeAt Go.RowKit
set_option linter.unusedVariables false
def RdR (w : World) (v : Value) (k : Nat) (L : List (List Value)) : Prop :=
 (v = .slice none 0 0 ∧ L = []) ∨ (∃ a cap, v = .slice (some a) 0 cap ∧ L = [] ∧ cap ≤ maxLen) ∨
 ∃ b off cap, v = .slice (some ⟨b, off, none⟩) L.length cap ∧ L.length ≤ cap ∧ cap ≤ maxLen ∧ ∀ (i : Nat) (l : List Value), L[i]? = some l → ∀ (j : Nat) (u : Value), l[j]? = some u → w.cell? ⟨b, off + i * k + j, none⟩ = some u
theorem choose_row (α : Type) (P : Nat → α → Prop) : ∀ n, (∀ i, i < n → ∃ x, P i x) → ∃ T : List α, T.length = n ∧ ∀ i x, T[i]? = some x → P i x
 | 0, _ => ⟨[], rfl, fun i x hi => by simp at hi⟩
 | n + 1, h => by
  obtain ⟨T, hl, hT⟩ := choose_row α P n (fun i hi => h i (by omega))
  obtain ⟨x, hx⟩ := h n (by omega)
  refine ⟨T ++ [x], by simp [hl], fun i y hy => ?_⟩
  by_cases e : i < T.length
  ·rw [List.getElem?_append_left e] at hy
   exact hT i y hy
  ·have hi := (List.getElem?_eq_some_iff.1 hy).1
   simp only [List.length_append, List.length_cons, List.length_nil] at hi
   obtain rfl : i = T.length := by omega
   simp at hy
   rw [← hy, hl]
   exact hx
theorem open_rows {H : Type} {enc : TypeId × Value → H} {W : World} {base : Nat} {v : Value} {d : DataW H} {p : List MemPlace} {t e : TypeId} (k : Nat) (ht : Tryz.prog.underlying t = some (.slice e)) (hk : Tryz.prog.cellsOf e = k) (hk0 : 0 < k)
  (hval : Value.okWide Tryz.prog W .any base t v) (h : DataW.Trod enc Tryz.prog W 0 (fun _ => true) true t v d p) :
  ∃ L : List (List Value), RdR W v k L ∧ ∀ (i : Nat) (l : List Value), L[i]? = some l → l.length = k ∧ ∃ fuel y, DataW.trod enc Tryz.prog W 0 (fun _ => true) true fuel e l = some y := by
 obtain ⟨a0, len, cap, rfl⟩ := okWide_slice ht hval
 obtain ⟨fuel, hf⟩ := h
 rcases Go.Deep.open_slice ht hf with ⟨hcs, _⟩ | ⟨a, len', cap', m, n, D, Pl, hcs, _, hl, hm, hmm, hx, hi⟩
 ·simp [Value.cells] at hcs
  obtain ⟨rfl, rfl, rfl⟩ := hcs
  exact ⟨[], .inl ⟨rfl, rfl⟩, fun i l hi => by simp at hi⟩
 ·simp [Value.cells] at hcs
  obtain ⟨rfl, rfl, rfl⟩ := hcs
  by_cases h0 : len = 0
  ·subst h0
   exact ⟨[], .inr (.inl ⟨a, cap, rfl, rfl, hm⟩), fun i l hi => by simp at hi⟩
  ·have hlm : len ≤ m := by
    rw [hmm]
    split <;> omega
   have key : ∀ i, i < len → ∃ x : List Value, (∀ j u, x[j]? = some u → W.cell? ((a.add (i * k)).add j) = some u) ∧ x.length = k ∧ ∃ fuel y, DataW.trod enc Tryz.prog W 0 (fun _ => true) true fuel e x = some y := by
    intro i hil
    obtain ⟨cs', hc, ht'⟩ := hi i (by omega)
    rw [hk] at hc
    obtain ⟨_, hcl, hat⟩ := World.cells?_some hc
    refine ⟨cs', fun j u hj => ?_, hcl, _, _, ht'⟩
    have hj' := (List.getElem?_eq_some_iff.1 hj).1
    have := hat j (by omega)
    rw [this]
    exact hj
   obtain ⟨L, hLl, hL⟩ := choose_row _ _ len key
   obtain ⟨b, off, spot⟩ := a
   have hspot : spot = none := by
    obtain ⟨x, hx0⟩ : ∃ x, L[0]? = some x := ⟨_, List.getElem?_eq_getElem (by omega)⟩
    obtain ⟨h1, h2, _⟩ := hL 0 x hx0
    have := h1 0 (x[0]'(by omega)) (List.getElem?_eq_getElem (by omega))
    simpa [Addr.add] using World.cell?_spot this
   subst hspot
   refine ⟨L, .inr <| .inr ⟨b, off, cap, by rw [hLl], by omega, hm, fun i l hi j u hj => ?_⟩, fun i l hi => (hL i l hi).2⟩
   have := (hL i l hi).1 j u hj
   rw [Go.WideShapes.add_plain, Go.WideShapes.add_plain] at this
   exact this
theorem rows_map {α : Type} (P : α → Prop) (f : α → List Value) (L : List (List Value)) (h : ∀ (i : Nat) (l : List Value), L[i]? = some l → ∃ x, l = f x ∧ P x) : ∃ T : List α, L = T.map f ∧ ∀ x ∈ T, P x := by
 obtain ⟨T, hl, hT⟩ := choose_row α (fun i x => L[i]? = some (f x) ∧ P x) L.length (fun i hi => by
  obtain ⟨x, e, hp⟩ := h i L[i] (List.getElem?_eq_getElem hi)
  exact ⟨x, by rw [List.getElem?_eq_getElem hi, e], hp⟩)
 refine ⟨T, ?_, fun x hx => ?_⟩
 ·apply List.ext_getElem?
  intro i
  rw [List.getElem?_map]
  by_cases hi : i < T.length
  ·have := hT i T[i] (List.getElem?_eq_getElem hi)
   rw [this.1, List.getElem?_eq_getElem hi]
   rfl
  ·rw [List.getElem?_eq_none (by omega), List.getElem?_eq_none (by omega)]
   rfl
 ·obtain ⟨i, hi, rfl⟩ := List.getElem_of_mem hx
  exact (hT i _ (List.getElem?_eq_getElem hi)).2
end Go.Proofs.YtggjhleomocojaaGreat
end
section
section
namespace Go.Proofs.YtggjhleomocojaaGreat
set_option maxRecDepth 100000
open Go.ChangeShapes Go.WideShapes Go.ChangeAt Go.RowKit
theorem fields_of {H : Type} {enc : TypeId × Value → H} {P : Program} {W : World} {t : TypeId} {fs : Array Field} {cs : List Value} {y : DataW H × List MemPlace} {fuel : Nat} (ht : P.underlying t = some (.struct fs))
  (h : DataW.trod enc P W 0 (fun _ => true) true fuel t cs = some y) :
  ∃ fuel', ∀ f ∈ fs.toList, ∃ y, DataW.trod enc P W 0 (fun _ => true) true fuel' f.type ((cs.drop f.offset).take (P.cellsOf f.type)) = some y := by
 obtain ⟨xs, n, -, -, -, hx, hg⟩ := DataW.trod_struct ht h
 refine ⟨n, fun f hfm => ?_⟩
 obtain ⟨i, hi, rfl⟩ := List.getElem_of_mem hfm
 have hi' : i < fs.size := by simpa using hi
 have := hg i fs[i] (by simp [hi'])
 exact ⟨xs[i]'(by omega), by simpa [hx, hi'] using this⟩
open Go.ChangeShapes Go.WideShapes Go.ChangeAt Go.RowKit
end Go.Proofs.YtggjhleomocojaaGreat
end
end
section
namespace Go.Proofs.YtggjhleomocojaaGreat
set_option maxRecDepth 100000
open Go.ChangeShapes Go.WideShapes Go.ChangeAt Go.RowKit
set_option linter.unusedVariables false
structure BytV where
 s : Value
 b : List Int
def BytV.cs (x : BytV) : List Value := [x.s]
structure BytV.Ok (w : World) (x : BytV) : Prop where
 s : ∃ a n c, x.s = .slice a n c
 r : RdB w x.s x.b
 b : IsB x.b
end Go.Proofs.YtggjhleomocojaaGreat
end
