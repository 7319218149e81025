/- Plain lemmas on a command's bytes. Conditions: none. -/
import Derived.Test.YtkbjbpaeoopkfaaCo
namespace Go.Proofs.Ytkbjbpaeoopkfaa
open Go.RowKit
theorem leB_leN (l : List Int) (h : IsB l) : leB (leN l) l.length = l := by
  induction l with
  | nil => rfl
  | cons b r ih =>
    have hb := h b (by simp)
    have hr : IsB r := fun x hx => h x (by simp [hx])
    have h2 := (leN_lt r.length r (Nat.le_refl _) hr).1
    simp only [leN, List.length_cons, leB]
    rw [show (b + 256 * leN r) % 256 = b by omega, show (b + 256 * leN r) / 256 = leN r by omega, ih hr]
theorem wrap32_mod (x : Int) : wrap32 x % 4294967296 = x % 4294967296 := by unfold wrap32; omega
theorem wrap64_mod (x : Int) : wrap64 x % 18446744073709551616 = x % 18446744073709551616 := by unfold wrap64; omega
theorem leB_fo {l : List Int} (hb : IsB l) (i : Nat) (hi : i + 4 ≤ l.length) : leB (fo l i % 4294967296) 4 = (l.drop i).take 4 := by
  unfold fo
  rw [wrap32_mod]
  have e : (256 : Int) ^ 4 = 4294967296 := by decide
  rw [← e, leB_mod]
  have h := leB_leN ((l.drop i).take 4) ((hb.drop i).take 4)
  rwa [show ((l.drop i).take 4).length = 4 by simp; omega] at h
theorem leB_ei {l : List Int} (hb : IsB l) (i : Nat) (hi : i + 8 ≤ l.length) : leB (ei l i % 18446744073709551616) 8 = (l.drop i).take 8 := by
  unfold ei
  rw [wrap64_mod]
  have e : (256 : Int) ^ 8 = 18446744073709551616 := by decide
  rw [← e, leB_mod]
  have h := leB_leN ((l.drop i).take 8) ((hb.drop i).take 8)
  rwa [show ((l.drop i).take 8).length = 8 by simp; omega] at h
theorem cut_at (l : List Int) (i n : Nat) : (l.drop i).take n ++ l.drop (i + n) = l.drop i := by
  rw [← List.drop_drop, List.take_append_drop]
/-- What was parsed has these bytes. -/
theorem coL_fo {l : List Int} (hb : IsB l) (hl : l.length = 32) : coL (fo l 0) (fo l 4) (fo l 8) (fo l 12) (ei l 16) (ei l 24) = l := by
  unfold coL cb4 cb8
  simp only [List.flatMap_cons, List.flatMap_nil, List.append_nil]
  rw [leB_fo hb 0 (by omega), leB_fo hb 4 (by omega), leB_fo hb 8 (by omega), leB_fo hb 12 (by omega), leB_ei hb 16 (by omega), leB_ei hb 24 (by omega)]
  have h24 : (l.drop 24).take 8 = l.drop 24 := List.take_of_length_le (by simp; omega)
  rw [h24]
  simp only [List.append_assoc]
  rw [cut_at l 16 8, cut_at l 12 4, cut_at l 8 4, cut_at l 4 4, cut_at l 0 4, List.drop_zero]
theorem fo_back (x : Int) (h : -2147483648 ≤ x ∧ x ≤ 2147483647) : wrap32 (leN (leB (x % 4294967296) 4)) = x := by
  rw [leN_leB]
  have e : (256 : Int) ^ 4 = 4294967296 := by decide
  rw [e]
  unfold wrap32
  omega
theorem ei_back (x : Int) (h : -9223372036854775808 ≤ x ∧ x ≤ 9223372036854775807) : wrap64 (leN (leB (x % 18446744073709551616) 8)) = x := by
  rw [leN_leB]
  have e : (256 : Int) ^ 8 = 18446744073709551616 := by decide
  rw [e]
  unfold wrap64
  omega
theorem coL_length (k st se er co cl : Int) : (coL k st se er co cl).length = 32 := by simp [coL, cb4, cb8, leB_length]
theorem coL_is (k st se er co cl : Int) : IsB (coL k st se er co cl) := (cb4_is _).append (cb8_is _)
/-- A command's bytes tell it. -/
theorem fo_coL (k st se er co cl : Int) (a1 : -2147483648 ≤ k ∧ k ≤ 2147483647) (a2 : -2147483648 ≤ st ∧ st ≤ 2147483647) (a3 : -2147483648 ≤ se ∧ se ≤ 2147483647) (a4 : -2147483648 ≤ er ∧ er ≤ 2147483647)
    (a5 : -9223372036854775808 ≤ co ∧ co ≤ 9223372036854775807) (a6 : -9223372036854775808 ≤ cl ∧ cl ≤ 9223372036854775807) :
    fo (coL k st se er co cl) 0 = k ∧ fo (coL k st se er co cl) 4 = st ∧ fo (coL k st se er co cl) 8 = se ∧ fo (coL k st se er co cl) 12 = er ∧ ei (coL k st se er co cl) 16 = co ∧ ei (coL k st se er co cl) 24 = cl := by
  refine ⟨?_, ?_, ?_, ?_, ?_, ?_⟩
  · exact fo_back k a1
  · exact fo_back st a2
  · exact fo_back se a3
  · exact fo_back er a4
  · exact ei_back co a5
  · exact ei_back cl a6
theorem pz_coL (k st se er co cl : Int) (a1 : -2147483648 ≤ k ∧ k ≤ 2147483647) (a2 : -2147483648 ≤ st ∧ st ≤ 2147483647) (a3 : -2147483648 ≤ se ∧ se ≤ 2147483647) (a4 : -2147483648 ≤ er ∧ er ≤ 2147483647)
    (a5 : -9223372036854775808 ≤ co ∧ co ≤ 9223372036854775807) (a6 : -9223372036854775808 ≤ cl ∧ cl ≤ 9223372036854775807) (h : coOk k st se er co cl = true) :
    pzV (coL k st se er co cl) = coV k st se er co cl ∧ pzE (coL k st se er co cl) = 0 := by
  obtain ⟨b1, b2, b3, b4, b5, b6⟩ := fo_coL k st se er co cl a1 a2 a3 a4 a5 a6
  have hp : pzOk (coL k st se er co cl) = true := by
    unfold pzOk
    rw [b1, b2, b3, b4, b5, b6, h, coL_length]
    decide
  unfold pzV pzE
  rw [if_pos hp, if_pos hp, b1, b2, b3, b4, b5, b6]
  exact ⟨rfl, rfl⟩
end Go.Proofs.Ytkbjbpaeoopkfaa
