/- A copy, whatever it does: its state, Next, Take, Bytes. Conditions: as each says. -/
import Derived.Test.YtknahaaefmlcpaaKv
namespace Go.Proofs.Ytknahaaefmlcpaa
set_option maxRecDepth 100000
open Go.RowKit
set_option linter.unusedVariables false
set_option linter.unusedSimpArgs false
/-- What a copy is about to do: write the bytes l, or read n bytes, from a place on; what it read. -/
structure CpM where
  wr : Bool
  a : Int
  l : List Int
  n : Nat
  hv : List Int
def CpM.live (m : CpM) : Bool := if m.wr then decide (m.l.length ≠ 0) else decide (m.n ≠ 0)
def CpM.ak (m : CpM) : Int := if m.live then (if m.wr then 6 else 5) else 0
def CpM.aa (m : CpM) : Int := if m.live then m.a else 0
def CpM.an (m : CpM) : Int := if m.live then (if m.wr then min (m.l.length : Int) 8 else min (m.n : Int) 8) else 0
def CpM.ab (m : CpM) : List Int := if m.wr then m.l.take 8 else []
def CpM.step (m : CpM) (x : List Int) : CpM := if m.live then (if m.wr then { m with a := m.a + 8, l := m.l.drop 8 } else { m with a := m.a + (min m.n 8 : Nat), n := m.n - min m.n 8, hv := m.hv ++ x }) else m
/-- A copy at block q in its state m; F: the blocks that are its own. -/
def Cp (w : World) (F : Nat → Prop) (q : Nat) (m : CpM) : Prop :=
  F q ∧ (∀ i, F i → i < w.heap.size) ∧ ((m.wr = true ∧ m.hv = [] ∧ ∃ O, (∀ i, O i → F i ∧ i ≠ q) ∧ WrSt w O q m.a m.l) ∨ (m.wr = false ∧ ∃ O R, (∀ i, O i → F i ∧ i ≠ q ∧ ¬ R i) ∧ (∀ i, R i → F i ∧ i ≠ q) ∧ OutSt w O R q m.a m.n m.hv))
theorem WrSt.keep {w w' : World} {O M : Nat → Prop} {q : Nat} {a : Int} {l : List Int} (h : WrSt w O q a l) (k : Keep M w w') (hd : ∀ i, O i → ¬ M i) (hq : ¬ M q) : WrSt w' O q a l := by
  rcases h with ⟨h0, h⟩ | ⟨h0, h⟩
  · exact .inl ⟨h0, h.keep k hd hq⟩
  · exact .inr ⟨h0, Blk.keep h k hq⟩
theorem Cp.keep {w w' : World} {F M : Nat → Prop} {q : Nat} {m : CpM} (h : Cp w F q m) (k : Keep M w w') (hd : ∀ i, F i → ¬ M i) : Cp w' F q m := by
  obtain ⟨h1, h2, h3⟩ := h
  refine ⟨h1, fun i hi => Nat.lt_of_lt_of_le (h2 i hi) k.size, ?_⟩
  rcases h3 with ⟨e, e2, O, hO, hs⟩ | ⟨e, O, R, hO, hR, hs⟩
  · exact .inl ⟨e, e2, O, hO, hs.keep k (fun i hi => hd i (hO i hi).1) (hd q h1)⟩
  · exact .inr ⟨e, O, R, hO, hR, hs.keep k (fun i hi => hd i (hO i hi).1) (fun i hi => hd i (hR i hi).1) (hd q h1)⟩
theorem Cp.below {w w' : World} {F : Nat → Prop} {q : Nat} {m : CpM} (h : Cp w F q m) (k : Below w.heap.size w w') : Cp w' F q m := h.keep (M := fun _ => False) (Below.keeps k) (fun _ _ => id)
theorem cp_next (F : Nat → Prop) (q : Nat) (m : CpM) (w : World) (h : Cp w F q m) :
    Calls Try.prog 144 #[.pointer (some ⟨q, 0, none⟩)] w fun e w' => ∃ s0 sl sc, e = .returned (.tuple #[.agg #[.int .i64 m.ak, .int .i64 m.aa, .int .i64 m.an, .int .u64 0, .int .u64 0, .slice s0 sl sc], .bool m.live]) ∧ OwB 5 w.heap.size w' (.slice s0 sl sc) m.ab ∧ Below w.heap.size w w' := by
  obtain ⟨wr, a, l, n, hv⟩ := m
  obtain ⟨h1, h2, ⟨e, e2, O, hO, hs⟩ | ⟨e, O, R, hO, hR, hs⟩⟩ := h
  · dsimp only at e e2 hs
    subst e e2
    rcases hs with ⟨h0, hs⟩ | ⟨h0, hs⟩
    · refine (cpNext_in O q a l _ _ [nilS] w hs).mono ?_
      rintro e w' ⟨s, rfl, o, b⟩
      obtain ⟨s0, sl, sc, rfl⟩ := o.isSliceC
      refine ⟨s0, sl, sc, ?_, o, b⟩
      simp only [CpM.live, CpM.ak, CpM.aa, CpM.an, Acc.V, h0, ne_eq, not_false_eq_true, decide_true, if_true]
      rw [show ((min l.length 8 : Nat) : Int) = min (l.length : Int) 8 by omega]
    · obtain rfl : l = [] := List.eq_nil_of_length_eq_zero h0
      refine (cpNext_end q accZ [nilS] w hs).mono ?_
      rintro e w' ⟨s, rfl, o, b⟩
      obtain ⟨s0, sl, sc, rfl⟩ := o.isSliceC
      exact ⟨s0, sl, sc, by simp [CpM.live, CpM.ak, CpM.aa, CpM.an, Acc.V], o, b⟩
  · dsimp only at e hs
    subst e
    refine (cpNext_out O R q a n hv w hs).mono ?_
    rintro e w' ⟨s, rfl, o, b⟩
    obtain ⟨s0, sl, sc, rfl⟩ := o.isSliceC
    refine ⟨s0, sl, sc, ?_, o, b⟩
    by_cases h0 : n = 0
    · simp [CpM.live, CpM.ak, CpM.aa, CpM.an, Acc.V, h0]
    · simp [CpM.live, CpM.ak, CpM.aa, CpM.an, Acc.V, h0]
/-- Take. -/
theorem cp_take (F : Nat → Prop) (q : Nat) (m : CpM) (xl : List Int) (v : Int) (d : Bool) (s0 : Option Addr) (sl sc : Nat) (w : World) (h : Cp w F q m) (hr : RdB w (.slice s0 sl sc) xl) (hlen : m.hv.length + xl.length ≤ 70368744177664) (hl : m.l.length ≤ 131072) (hn : m.n ≤ 131072)
    (ha : -2305843009213693952 ≤ m.a) (ha' : m.a ≤ 2305843009213693952) :
    Calls Try.prog 145 #[.pointer (some ⟨q, 0, none⟩), .agg #[.int .u64 v, .bool d, .slice s0 sl sc]] w fun e w' =>
      e = .returned (.tuple #[]) ∧ ∃ F', Cp w' F' q (m.step xl) ∧ (∀ i, F' i → F i ∨ w.heap.size ≤ i) ∧ Keep F w w' := by
  obtain ⟨wr, a, l, n, hv⟩ := m
  obtain ⟨h1, h2, ⟨e, e2, O, hO, hs⟩ | ⟨e, O, R, hO, hR, hs⟩⟩ := h
  · dsimp only at e e2 hs hlen hl hn ha ha'
    subst e e2
    rcases hs with ⟨h0, hs⟩ | ⟨h0, hs⟩
    · have hst : (CpM.step ⟨true, a, l, n, []⟩ xl) = ⟨true, a + 8, l.drop 8, n, []⟩ := by simp [CpM.step, CpM.live, h0]
      rw [hst]
      by_cases h8 : 8 < l.length
      · refine (cpTake_more O q a l _ _ [nilS] v d s0 sl sc w hs (fun hi => (hO q hi).2 rfl) h8 hl ha ha').mono ?_
        rintro e w' ⟨rfl, hs', k⟩
        refine ⟨rfl, fun i => F i ∨ (w.heap.size ≤ i ∧ i < w'.heap.size), ⟨.inl h1, fun i hi => ?_, .inl ⟨rfl, rfl, _, fun i hi => ?_, .inl ⟨?_, hs'⟩⟩⟩, fun i hi => ?_, k.mono (fun i _ e => e ▸ h1)⟩
        · rcases hi with hi | hi
          · exact Nat.lt_of_lt_of_le (h2 i hi) k.size
          · exact hi.2
        · rcases hi with hi | hi
          · exact ⟨.inl (hO i hi).1, (hO i hi).2⟩
          · exact ⟨.inr hi, by have := h2 q h1; omega⟩
        · show (l.drop 8).length ≠ 0
          simp
          omega
        · rcases hi with hi | hi
          · exact .inl hi
          · exact .inr hi.1
      · refine (cpTake_last O q a l [nilS] v d s0 sl sc w hs (fun hi => (hO q hi).2 rfl) (by omega) ha ha').mono ?_
        rintro e w' ⟨rfl, hm, k⟩
        refine ⟨rfl, F, ⟨h1, fun i hi => Nat.lt_of_lt_of_le (h2 i hi) k.size, .inl ⟨rfl, rfl, fun _ => False, fun i hi => hi.elim, .inr ⟨?_, hm⟩⟩⟩, fun i hi => .inl hi, k.mono (fun i _ e => e ▸ h1)⟩
        show (l.drop 8).length = 0
        simp
        omega
    · obtain rfl : l = [] := List.eq_nil_of_length_eq_zero h0
      refine (cpTake_end q accZ [nilS] v d s0 sl sc w hs).mono ?_
      rintro e w' ⟨rfl, b⟩
      have hst : (CpM.step ⟨true, a, [], n, []⟩ xl) = ⟨true, a, [], n, []⟩ := by simp [CpM.step, CpM.live]
      rw [hst]
      exact ⟨rfl, F, Cp.below ⟨h1, h2, .inl ⟨rfl, rfl, O, hO, .inr ⟨h0, hs⟩⟩⟩ b, fun i hi => .inl hi, Below.keeps b⟩
  · dsimp only at e hs hlen hl hn ha ha'
    subst e
    by_cases h0 : n = 0
    · subst h0
      have hst : (CpM.step ⟨false, a, l, 0, hv⟩ xl) = ⟨false, a, l, 0, hv⟩ := by simp [CpM.step, CpM.live]
      rw [hst]
      have hs2 := hs
      obtain ⟨c, t, rv, mm, ho, hro, ⟨_, rfl⟩ | ⟨hk, _⟩⟩ := hs2
      · refine (cpTake_end q c [rv] v d s0 sl sc w mm).mono ?_
        rintro e w' ⟨rfl, b⟩
        exact ⟨rfl, F, Cp.below ⟨h1, h2, .inr ⟨rfl, O, R, hO, hR, hs⟩⟩ b, fun i hi => .inl hi, Below.keeps b⟩
      · omega
    · have hst : (CpM.step ⟨false, a, l, n, hv⟩ xl) = ⟨false, a + (min n 8 : Nat), l, n - min n 8, hv ++ xl⟩ := by simp [CpM.step, CpM.live, h0]
      rw [hst]
      refine (cpTake_out O R q a n hv xl v d s0 sl sc w hs (by omega) hn hr hlen (fun i hi => (hO i hi).2) (fun hi => (hR q hi).2 rfl) ha ha').mono ?_
      rintro e w' ⟨rfl, ⟨mm, y1, y2, hs'⟩, k⟩
      have hk := k.size
      have hq := h2 q h1
      refine ⟨rfl, fun i => F i ∨ (w.heap.size ≤ i ∧ i < w'.heap.size), ⟨.inl h1, fun i hi => ?_, .inr ⟨rfl, _, _, fun i hi => ?_, fun i hi => ?_, hs'⟩⟩, fun i hi => ?_, k.mono (fun i _ e => ?_)⟩
      · rcases hi with hi | hi
        · exact Nat.lt_of_lt_of_le (h2 i hi) k.size
        · exact hi.2
      · refine ⟨.inr ⟨by omega, hi.2⟩, by omega, ?_⟩
        rintro (h | h)
        · have := h2 i (hR i h).1
          omega
        · omega
      · rcases hi with hi | hi
        · exact ⟨.inl (hR i hi).1, (hR i hi).2⟩
        · exact ⟨.inr ⟨by omega, by omega⟩, by omega⟩
      · rcases hi with hi | hi
        · exact .inl hi
        · exact .inr hi.1
      · rcases e with e | e
        · exact e ▸ h1
        · exact (hR i e).1
theorem cp_made_wr {w w' : World} {q : Nat} {O : Nat → Prop} {a : Int} {l : List Int} (n : Nat) (hq : w.heap.size ≤ q) (h : WrSt w' O q a l) (hO : ∀ i, O i → w.heap.size ≤ i ∧ i < w'.heap.size ∧ i ≠ q) :
    Cp w' (fun i => w.heap.size ≤ i ∧ i < w'.heap.size) q ⟨true, a, l, n, []⟩ :=
  ⟨⟨hq, h.lt⟩, fun i hi => hi.2, .inl ⟨rfl, rfl, O, fun i hi => ⟨⟨(hO i hi).1, (hO i hi).2.1⟩, (hO i hi).2.2⟩, h⟩⟩
theorem cp_made_rd {w w' : World} {q : Nat} {O : Nat → Prop} {a : Int} {n : Nat} (l : List Int) (hq : w.heap.size ≤ q) (h : OutSt w' O (fun _ => False) q a n []) (hO : ∀ i, O i → w.heap.size ≤ i ∧ i < w'.heap.size ∧ i ≠ q) :
    Cp w' (fun i => w.heap.size ≤ i ∧ i < w'.heap.size) q ⟨false, a, l, n, []⟩ :=
  ⟨⟨hq, h.lt⟩, fun i hi => hi.2, .inr ⟨rfl, O, fun _ => False, fun i hi => ⟨⟨(hO i hi).1, (hO i hi).2.1⟩, (hO i hi).2.2, id⟩, fun i hi => hi.elim, h⟩⟩
end Go.Proofs.Ytknahaaefmlcpaa
