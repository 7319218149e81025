/- Copies of any size: In, Zero, Out; a copy laid over a known row. Conditions: as each says. -/
import Derived.Test.YtknahaaefmlcpaaKu
import Derived.Laws.CopyOwn
namespace Go.Proofs.Ytknahaaefmlcpaa
set_option maxRecDepth 100000
open Go.RowKit
set_option linter.unusedVariables false
set_option linter.unusedSimpArgs false
/-- A copy that is about to write bytes, or at its end. -/
def WrSt (w : World) (O : Nat → Prop) (q : Nat) (at0 : Int) (l : List Int) : Prop := (l.length ≠ 0 ∧ InSt w O q at0 l fnNone [nilS]) ∨ (l.length = 0 ∧ Mch w q accZ .nilFunc [nilS])
theorem WrSt.lt {w : World} {O : Nat → Prop} {q : Nat} {at0 : Int} {l : List Int} (h : WrSt w O q at0 l) : q < w.heap.size := by
  rcases h with ⟨_, _, _, _, _, _, m, _⟩ | ⟨_, m⟩
  · exact Blk.lt m
  · exact Blk.lt m
theorem cpIn_any (at0 : Int) (s0 : Option Addr) (sl sc : Nat) (l : List Int) (w : World) (h : RdB w (.slice s0 sl sc) l) (hl : l.length ≤ 131072) :
    Calls Try.prog 29 #[.int .i64 at0, .slice s0 sl sc] w fun e w' => ∃ q O, e = .returned (ptr q) ∧ w.heap.size ≤ q ∧ Below w.heap.size w w' ∧ WrSt w' O q at0 l ∧ (∀ i, O i → w.heap.size ≤ i ∧ i < w'.heap.size ∧ i ≠ q) := by
  obtain rfl := rd_len h
  by_cases h0 : l.length = 0
  · obtain rfl : l = [] := List.eq_nil_of_length_eq_zero h0
    refine (cpIn_empty at0 s0 sc w h).mono ?_
    rintro e w' ⟨q, rfl, hq, hb, hm⟩
    exact ⟨q, fun _ => False, rfl, hq, hb, .inr ⟨rfl, hm⟩, fun i hi => hi.elim⟩
  · refine (cpIn_row at0 s0 sc l w h h0 hl).mono ?_
    rintro e w' ⟨q, O, rfl, hq, hb, hs, hO, hn⟩
    exact ⟨q, O, rfl, hq, hb, .inl ⟨h0, hs⟩, fun i hi => ⟨(hO i hi).1, (hO i hi).2, fun e => hn (e ▸ hi)⟩⟩
set_option maxHeartbeats 1000000 in
theorem cpZero_none (at0 n : Int) (w : World) (hn : n ≤ 0) :
    Calls Try.prog 30 #[.int .i64 at0, .int .i64 n] w fun e w' => ∃ q, e = .returned (ptr q) ∧ w.heap.size ≤ q ∧ Below w.heap.size w w' ∧ Mch w' q accZ .nilFunc [nilS] := by
  have h' : n ≤ 131072 := by omega
  go_enter Try.func30, Try.ntmps30
  go_wp2_with fail
  refine (cZero_none w.heap.size at0 n _ _ _ hn (fun w1 => enNone _ w1) (fun w' => Below (w.heap.size + 1) (w.alloc (.cells #[.int .i64 0, .int .i64 0, .int .i64 0, .int .u64 0, .int .u64 0, .slice none 0 0, .nilFunc, .slice none 0 0] 149)) w') (fun w1 b1 => (none_any w1).mono fun e w' ⟨h1, h2⟩ => ⟨h1, h2 ▸ (b1.mono (by simp))⟩)).mono ?_
  rintro e w1 ⟨rfl, b1⟩
  go_wp2
  go_ret
  exact ⟨w.heap.size, rfl, Nat.le_refl _, Below.trans (by go_grown) (b1.mono (by omega)), Blk.below (Blk.made w #[.int .i64 0, .int .i64 0, .int .i64 0, .int .u64 0, .int .u64 0, .slice none 0 0, .nilFunc, .slice none 0 0] _) b1 (by omega)⟩
theorem cpZero_any (at0 : Int) (n : Nat) (w : World) (hn : n ≤ 131072) :
    Calls Try.prog 30 #[.int .i64 at0, .int .i64 n] w fun e w' => ∃ q O, e = .returned (ptr q) ∧ w.heap.size ≤ q ∧ Below w.heap.size w w' ∧ WrSt w' O q at0 (List.replicate n 0) ∧ (∀ i, O i → w.heap.size ≤ i ∧ i < w'.heap.size ∧ i ≠ q) := by
  by_cases h0 : n = 0
  · subst h0
    refine (cpZero_none at0 0 w (by omega)).mono ?_
    rintro e w' ⟨q, rfl, hq, hb, hm⟩
    exact ⟨q, fun _ => False, rfl, hq, hb, .inr ⟨rfl, hm⟩, fun i hi => hi.elim⟩
  · refine (cpZero_row at0 n w (by omega) hn).mono ?_
    rintro e w' ⟨q, O, rfl, hq, hb, hs, hO, hn⟩
    exact ⟨q, O, rfl, hq, hb, .inl ⟨by simpa using h0, hs⟩, fun i hi => ⟨(hO i hi).1, (hO i hi).2, fun e => hn (e ▸ hi)⟩⟩
theorem cpOut_any (at0 : Int) (n : Nat) (w : World) (hn : n ≤ 131072) :
    Calls Try.prog 31 #[.int .i64 at0, .int .i64 n] w fun e w' => ∃ q O, e = .returned (ptr q) ∧ w.heap.size ≤ q ∧ Below w.heap.size w w' ∧ OutSt w' O (fun _ => False) q at0 n [] ∧ (∀ i, O i → w.heap.size ≤ i ∧ i < w'.heap.size ∧ i ≠ q) := by
  by_cases h0 : n = 0
  · subst h0
    refine (cpOut_none at0 0 w (by omega)).mono ?_
    rintro e w' ⟨q, rfl, hq, hb, hm⟩
    exact ⟨q, fun _ => False, rfl, hq, hb, ⟨accZ, .nilFunc, nilS, hm, OwB.nil _ _ _, (fun b hb => by cases hb), .inl ⟨rfl, rfl⟩⟩, fun i hi => hi.elim⟩
  · exact cpOut_more at0 n w (by omega) hn
theorem OutSt.done {w : World} {O R : Nat → Prop} {q : Nat} {a : Int} {l : List Int} (h : OutSt w O R q a 0 l) : OutSt w (fun _ => False) R q a 0 l := by
  obtain ⟨c, t, rv, h1, h2, h3, h4⟩ := h
  refine ⟨c, t, rv, h1, h2, h3, .inl ⟨rfl, ?_⟩⟩
  rcases h4 with h4 | ⟨h4, _⟩
  · exact h4.2
  · omega
theorem OutSt.lt {w : World} {O R : Nat → Prop} {q : Nat} {a : Int} {n : Nat} {l : List Int} (h : OutSt w O R q a n l) : q < w.heap.size := by
  obtain ⟨_, _, _, m, _⟩ := h
  exact Blk.lt m
def wS (j : Nat) : List Int := (List.range 512).map fun i => if i < j then ((i : Int) * 7 + 1) % 256 else 0
theorem wS_len (j : Nat) : (wS j).length = 512 := by simp [wS]
theorem wS_is (j : Nat) : IsB (wS j) := by
  intro x hx
  simp only [wS, List.mem_map] at hx
  obtain ⟨i, _, rfl⟩ := hx
  split <;> omega
theorem wS_start : (wS 0).map (Value.int .u8) = (madeCells #[Value.int .u8 0] 512).toList := by
  simp only [wS, madeCells]
  apply List.ext_getElem
  · simp
  · intro i h1 h2
    simp [Nat.mod_one]
theorem wS_set (j : Nat) (h : j < 512) : ((wS j).map (Value.int .u8)).set j (.int .u8 (((j : Int) * 7 + 1) % 256)) = (wS (j + 1)).map (Value.int .u8) := by
  apply List.ext_getElem
  · simp [wS]
  · intro i h1 h2
    simp only [wS, List.getElem_set, List.getElem_map, List.getElem_range]
    by_cases e : j = i
    · subst e
      simp
    · rw [if_neg e]
      by_cases c : i < j
      · rw [if_pos c, if_pos (by omega)]
      · rw [if_neg c, if_neg (by omega)]
theorem zS_set (bs : List Int) (a j : Nat) (h : a + j < bs.length) : ((spl bs a (List.replicate j 0)).map (Value.int .u8)).set (a + j) (.int .u8 0) = (spl bs a (List.replicate (j + 1) 0)).map (Value.int .u8) := by
  have s1 := spl_len bs a (List.replicate j 0) (by simp; omega)
  have s2 := spl_len bs a (List.replicate (j + 1) 0) (by simp; omega)
  rw [← List.map_set]
  congr 1
  apply List.ext_getElem (by simp [s1, s2])
  intro i h1 h2
  rw [List.getElem_set]
  rw [← gB_get _ _ h2]
  by_cases e : a + j = i
  · rw [if_pos e, spl_in _ _ _ (by simp; omega) _ (by omega) (by simp; omega)]
    simp [gB, List.getD, show i - a < j + 1 by omega]
  · rw [if_neg e, ← gB_get _ _ (by simpa using h1)]
    by_cases c1 : i < a
    · rw [spl_lt _ _ _ (by simp; omega) _ c1, spl_lt _ _ _ (by simp; omega) _ c1]
    · by_cases c2 : i < a + j
      · rw [spl_in _ _ _ (by simp; omega) _ (by omega) (by simp; omega), spl_in _ _ _ (by simp; omega) _ (by omega) (by simp; omega)]
        simp [gB, List.getD, List.getElem?_replicate, show i - a < j by omega, show i - a < j + 1 by omega]
      · rw [spl_ge _ _ _ (by simp; omega) _ (by simp; omega), spl_ge _ _ _ (by simp; omega) _ (by simp; omega)]
theorem spl_whole (bs ms : List Int) (h : bs.length = ms.length) : spl bs 0 ms = ms := by simp [spl, ← h]
end Go.Proofs.Ytknahaaefmlcpaa
