/- A ring's bytes, unrolled from a place on. No program in sight. Conditions: none. -/
import Derived.Test.YtpicplkbblmbeaaBp
namespace Go.Proofs.Ytpicplkbblmbeaa
open Go.RowKit
set_option linter.unusedVariables false
/-- A ring's bytes (s of them, from b on) from the place h on. -/
def un (bs : List Int) (b s h : Nat) : List Int := (bs.drop (b + h)).take (s - h) ++ (bs.drop b).take h
/-- Where an offset stands in the ring. -/
def plc (s h o : Nat) : Nat := if h + o < s then h + o else h + o - s
theorem plc_cases (s h o : Nat) : (h + o < s ∧ plc s h o = h + o) ∨ (s ≤ h + o ∧ plc s h o = h + o - s) := by
  unfold plc
  by_cases h1 : h + o < s
  · exact .inl ⟨h1, if_pos h1⟩
  · exact .inr ⟨by omega, if_neg h1⟩
theorem un_len {bs : List Int} {b s h : Nat} (hl : b + s ≤ bs.length) (hh : h ≤ s) : (un bs b s h).length = s := by
  unfold un
  simp
  omega
theorem gB_drop (l : List Int) (a i : Nat) : gB (l.drop a) i = gB l (a + i) := by simp [gB, List.getD]
theorem gB_takeR (l : List Int) (n i : Nat) (h : i < n) : gB (l.take n) i = gB l i := by simp [gB, List.getD, h]
theorem gB_app1 (l m : List Int) (i : Nat) (h : i < l.length) : gB (l ++ m) i = gB l i := by simp [gB, List.getD, List.getElem?_append_left h]
theorem gB_app2 (l m : List Int) (i : Nat) (h : l.length ≤ i) : gB (l ++ m) i = gB m (i - l.length) := by simp [gB, List.getD, List.getElem?_append_right h]
theorem gB_ext {l m : List Int} (hl : l.length = m.length) (h : ∀ i, i < l.length → gB l i = gB m i) : l = m := by
  apply List.ext_getElem hl
  intro i h1 h2
  have := h i h1
  simpa [gB, List.getD, h1, h2] using this
theorem un_at {bs : List Int} {b s h : Nat} (hl : b + s ≤ bs.length) (hh : h ≤ s) {o : Nat} (ho : o < s) : gB (un bs b s h) o = gB bs (b + plc s h o) := by
  have l1 : ((bs.drop (b + h)).take (s - h)).length = s - h := by simp; omega
  unfold un plc
  by_cases hc : h + o < s
  · rw [if_pos hc, gB_app1 _ _ _ (by omega), gB_takeR _ _ _ (by omega), gB_drop]
    rw [Nat.add_assoc]
  · rw [if_neg hc, gB_app2 _ _ _ (by omega), l1, gB_takeR _ _ _ (by omega), gB_drop]
    rw [show b + (o - (s - h)) = b + (h + o - s) by omega]
/-- A row written into the ring, where it crosses nothing. -/
theorem un_spl {bs : List Int} {b s h : Nat} (hl : b + s ≤ bs.length) (hh : h < s) {o : Nat} {ms : List Int} (ho : o + ms.length ≤ s) (hx : plc s h o + ms.length ≤ s) : un (spl bs (b + plc s h o) ms) b s h = spl (un bs b s h) o ms := by
  have hsl := spl_len bs (b + plc s h o) ms (by omega)
  have hul := un_len hl (Nat.le_of_lt hh)
  have co := plc_cases s h o
  apply gB_ext
  · rw [un_len (by rw [hsl]; exact hl) (Nat.le_of_lt hh), spl_len _ _ _ (by omega), hul]
  · intro i hi
    rw [un_len (by rw [hsl]; exact hl) (Nat.le_of_lt hh)] at hi
    have ci := plc_cases s h i
    rw [un_at (by rw [hsl]; exact hl) (Nat.le_of_lt hh) hi]
    by_cases h1 : i < o
    · rw [spl_lt (un bs b s h) o ms (by omega) i h1, un_at hl (Nat.le_of_lt hh) hi]
      by_cases h2 : b + plc s h i < b + plc s h o
      · rw [spl_lt _ _ _ (by omega) _ h2]
      · rw [spl_ge _ _ _ (by omega) _ (by omega)]
    by_cases h3 : i < o + ms.length
    · rw [spl_in _ _ _ (by omega) _ (by omega) h3, spl_in _ _ _ (by omega) _ (by omega) (by omega)]
      congr 1
      omega
    · rw [spl_ge (un bs b s h) o ms (by omega) i (by omega), un_at hl (Nat.le_of_lt hh) hi]
      by_cases h2 : b + plc s h i < b + plc s h o
      · rw [spl_lt _ _ _ (by omega) _ h2]
      · rw [spl_ge _ _ _ (by omega) _ (by omega)]
/-- A row read out of the ring, where it crosses nothing. -/
theorem un_take {bs : List Int} {b s h : Nat} (hl : b + s ≤ bs.length) (hh : h < s) {o n : Nat} (ho : o + n ≤ s) (hx : plc s h o + n ≤ s) : ((un bs b s h).drop o).take n = (bs.drop (b + plc s h o)).take n := by
  have hul := un_len hl (Nat.le_of_lt hh)
  have co := plc_cases s h o
  apply gB_ext
  · simp
    omega
  · intro i hi
    simp at hi
    have ci := plc_cases s h (o + i)
    rw [gB_takeR _ _ _ (by omega), gB_takeR _ _ _ (by omega), gB_drop, gB_drop, un_at hl (Nat.le_of_lt hh) (by omega)]
    congr 1
    omega
theorem un_rd {bs : List Int} {b s h : Nat} (hl : b + s ≤ bs.length) (hh : h < s) {o n : Nat} (ho : o + n ≤ s) (hx : plc s h o + n ≤ s) : rdN bs (b + plc s h o) n = rdN (un bs b s h) o n := by
  unfold rdN
  rw [un_take hl hh ho hx]
/-- What is written beside the ring leaves it. -/
theorem un_out {bs : List Int} {b s h a : Nat} {ms : List Int} (hl : b + s ≤ bs.length) (hh : h ≤ s) (ha : a + ms.length ≤ bs.length) (ho : b + s ≤ a ∨ a + ms.length ≤ b) : un (spl bs a ms) b s h = un bs b s h := by
  have hsl := spl_len bs a ms ha
  apply gB_ext
  · rw [un_len (by rw [hsl]; exact hl) hh, un_len hl hh]
  · intro i hi
    rw [un_len (by rw [hsl]; exact hl) hh] at hi
    rw [un_at (by rw [hsl]; exact hl) hh hi, un_at hl hh hi]
    have hp : plc s h i < s := by unfold plc; split <;> omega
    rcases ho with ho | ho
    · rw [spl_lt _ _ _ ha _ (by omega)]
    · rw [spl_ge _ _ _ ha _ (by omega)]
/-- The ring from a later place on. -/
theorem un_turn {bs : List Int} {b s h d : Nat} (hl : b + s ≤ bs.length) (hh : h < s) (hd : d ≤ s) : un bs b s ((h + d) % s) = (un bs b s h).drop d ++ (un bs b s h).take d := by
  have hm : (h + d) % s < s := Nat.mod_lt _ (by omega)
  have hm2 : (h + d) % s = if h + d < s then h + d else if h + d < 2 * s then h + d - s else 0 := by
    split
    · exact Nat.mod_eq_of_lt (by assumption)
    split
    · rw [Nat.mod_eq_sub_mod (by omega), Nat.mod_eq_of_lt (by omega)]
    · omega
  have hul := un_len hl (Nat.le_of_lt hh)
  have hdl : ((un bs b s h).drop d).length = s - d := by simp [hul]
  apply gB_ext
  · rw [un_len hl (by omega)]
    simp [hul]
    omega
  · intro i hi
    rw [un_len hl (by omega)] at hi
    rw [un_at hl (by omega) hi]
    by_cases hc : i < s - d
    · rw [gB_app1 _ _ _ (by omega), gB_drop, un_at hl (by omega) (by omega)]
      congr 1
      have c1 := plc_cases s ((h + d) % s) i
      have c2 := plc_cases s h (d + i)
      split at hm2
      · omega
      split at hm2 <;> omega
    · rw [gB_app2 _ _ _ (by omega), hdl, gB_takeR _ _ _ (by omega), un_at hl (by omega) (by omega)]
      congr 1
      have c1 := plc_cases s ((h + d) % s) i
      have c2 := plc_cases s h (i - (s - d))
      split at hm2
      · omega
      split at hm2 <;> omega
end Go.Proofs.Ytpicplkbblmbeaa
