/- Contracts of Chunks, the program's and the reference's. Conditions: the arguments are in their kinds' ranges. -/
import Derived.Test.YtpicplkbblmbeaaGreatRw
namespace Go.Proofs.YtpicplkbblmbeaaGreat
set_option maxRecDepth 100000
open Go.RowKit
set_option linter.unusedVariables false
theorem intinfo : (Tryz.prog.info? 3).map (fun i => (i.zero, i.size, i.bytes)) = some (some (.int .i64 0), 1, 8) := by kernel_rfl
/-- How many whole parts come ahead of the last one. -/
def chK (n : Int) : Nat := (n.toNat - 1) / 8
/-- The parts of a copy. -/
def chL (n : Int) : List Int := if n < 1 ∨ 131072 < n then [] else List.replicate (chK n) 8 ++ [n - 8 * chK n]
theorem chL_in {n : Int} (h1 : 1 ≤ n) (h2 : n ≤ 131072) : chL n = List.replicate (chK n) 8 ++ [n - 8 * chK n] := by unfold chL; rw [if_neg (by omega)]
theorem chL_out {n : Int} (h : n < 1 ∨ 131072 < n) : chL n = [] := by unfold chL; rw [if_pos h]
theorem chK_bd {n : Int} (h1 : 1 ≤ n) : 8 * (chK n : Int) < n ∧ n ≤ 8 * (chK n : Int) + 8 := by unfold chK; omega
/-- The parts after k rounds. -/
def chP (n : Int) (k : Nat) : List Int := if k ≤ chK n then List.replicate k 8 else chL n
theorem chP_len {n : Int} (h1 : 1 ≤ n) (h2 : n ≤ 131072) (k : Nat) (hk : k ≤ chK n + 1) : (chP n k).length = k := by
  unfold chP
  split
  · simp
  · rw [chL_in h1 h2]; simp; omega
theorem chP_step {n : Int} (h1 : 1 ≤ n) (h2 : n ≤ 131072) (k : Nat) (hk : k ≤ chK n) : chP n k ++ [min (n - 8 * k) 8] = chP n (k + 1) := by
  have := chK_bd h1
  unfold chP
  rw [if_pos hk]
  split
  · rw [show min (n - 8 * (k : Int)) 8 = 8 from by omega, List.replicate_succ']
  · obtain rfl : k = chK n := by omega
    rw [chL_in h1 h2, show min (n - 8 * (chK n : Int)) 8 = n - 8 * chK n from by omega]
set_option maxHeartbeats 1000000 in
theorem wChunks_any (n : Int) (w : World) (hn0 : -9223372036854775808 ≤ n) :
    Calls Tryz.prog 195 #[.int .i64 n] w fun e w' => ∃ v, e = .returned v ∧ OwI 3 w.heap.size w' v (chL n) ∧ Below w.heap.size w w' := by
  by_cases c1 : n < 1
  · have HV := Lib.hid (chL_out (n := n) (.inl c1))
    go_enter Tryz.func195, Tryz.ntmps195
    go_wp2
    go_ret
    exact ⟨_, rfl, by rw [HV.out]; exact OwI.nil _ _ _, Below.refl _ _⟩
  by_cases c2 : 131072 < n
  · have HV := Lib.hid (chL_out (n := n) (.inr c2))
    go_enter Tryz.func195, Tryz.ntmps195
    go_wp2
    go_ret
    exact ⟨_, rfl, by rw [HV.out]; exact OwI.nil _ _ _, Below.refl _ _⟩
  have hk0 := chK_bd (n := n) (by omega)
  have a1 : 1 ≤ n := by omega
  have a2 : n ≤ 131072 := by omega
  obtain ⟨i0, hi, hz0, hz1, hz2⟩ := info_parts intinfo
  go_enter Tryz.func195, Tryz.ntmps195
  go_wp2
  go_loopw [0, 3] (fun x v wr => ∃ k : Nat, k ≤ chK n + 1 ∧ x = .int .i64 (n - 8 * k) ∧ OwI 3 w.heap.size wr v (chP n k) ∧ Below w.heap.size w wr) (fun x _ _ => (intOf x).toNat)
  case atStart => exact ⟨0, by omega, by simp, by simpa [chP] using OwI.nil _ _ _, Below.refl _ _⟩
  case round =>
    obtain ⟨k, hk, rfl, hown, hbel⟩ := hrel
    by_cases hlt : k ≤ chK n
    · have hsz := hbel.size
      unfold OwI at hown
      rw [chP_len a1 a2 k hk] at hown
      have HS := Lib.hid (chP_step a1 a2 k hlt)
      by_cases hm : n - 8 * (k : Int) ≤ 8
      · rw [show min (n - 8 * (k : Int)) 8 = n - 8 * k from by omega] at HS
        go_wp2_with (at_builtin; refine wpList_append_own _ rfl _ _ 250 rfl w.heap.size 3 i0 (.int .i64 0) 1 8 Tryz.underlying250 hi hz0 hz1 hz2 rfl (by decide) _ _ _ rfl (hown.alloc _) ⟨wr.heap.size, 0, none⟩ 1 1 [.int .i64 (n - 8 * k)] rfl rfl ?c1 ?c2 ?c3 ?c4 ?c5 ?_)
        case c1 => exact cell_one_new _ _ _
        case c2 => simp [Value.oneCell']
        case c3 => unfold maxLen; omega
        case c4 => omega
        case c5 => first | omega | (simp; omega)
        intro v' w1 hown' hgrow _
        have hrel := OwI.push (n - 8 * k) (chP_len a1 a2 k hk) hown hown' hgrow hbel hsz
        rw [HS.out] at hrel
        clear hown hown' hgrow hbel
        go_wp2
        go_roundw
        case rel => exact ⟨k + 1, by omega, int_eq (by omega), hrel.1, hrel.2⟩
        case measure => simp [intOf]; omega
      · rw [show min (n - 8 * (k : Int)) 8 = 8 from by omega] at HS
        go_wp2_with (at_builtin; refine wpList_append_own _ rfl _ _ 250 rfl w.heap.size 3 i0 (.int .i64 0) 1 8 Tryz.underlying250 hi hz0 hz1 hz2 rfl (by decide) _ _ _ rfl (hown.alloc _) ⟨wr.heap.size, 0, none⟩ 1 1 [.int .i64 8] rfl rfl ?d1 ?d2 ?d3 ?d4 ?d5 ?_)
        try case d1 => exact cell_one_new _ _ _
        case d2 => simp [Value.oneCell']
        case d3 => unfold maxLen; omega
        case d4 => omega
        case d5 => first | omega | (simp; omega)
        intro v' w1 hown' hgrow _
        have hrel := OwI.push 8 (chP_len a1 a2 k hk) hown hown' hgrow hbel hsz
        rw [HS.out] at hrel
        clear hown hown' hgrow hbel
        go_wp2
        go_roundw
        case rel => exact ⟨k + 1, by omega, int_eq (by omega), hrel.1, hrel.2⟩
        case measure => simp [intOf]; omega
    · obtain rfl : k = chK n + 1 := by omega
      go_wp2
      go_ret
      have e : chP n (chK n + 1) = chL n := by unfold chP; rw [if_neg (by omega)]
      rw [e] at hown
      exact ⟨_, rfl, hown, hbel⟩
theorem chP_same {n : Int} {k : Nat} (h : k ≤ chK n) : chP n k = List.replicate k 8 := by unfold chP; rw [if_pos h]
set_option maxHeartbeats 1000000 in
theorem refChunks_any (n : Int) (w : World) (hn0 : -9223372036854775808 ≤ n) :
    Calls Tryz.prog 174 #[.int .i64 n] w fun e w' => ∃ v, e = .returned v ∧ OwI 3 w.heap.size w' v (chL n) ∧ Below w.heap.size w w' := by
  by_cases c1 : n < 1
  · have HV := Lib.hid (chL_out (n := n) (.inl c1))
    go_enter Tryz.func174, Tryz.ntmps174
    go_wp2
    refine wp_loop_rounds 1 ?_; rw [rounds_succ]
    go_wp2
    go_ret
    exact ⟨_, rfl, by rw [HV.out]; exact OwI.nil _ _ _, Below.refl _ _⟩
  by_cases c2 : 131072 < n
  · have HV := Lib.hid (chL_out (n := n) (.inr c2))
    go_enter Tryz.func174, Tryz.ntmps174
    go_wp2
    go_ret
    exact ⟨_, rfl, by rw [HV.out]; exact OwI.nil _ _ _, Below.refl _ _⟩
  have hk0 := chK_bd (n := n) (by omega)
  have a1 : 1 ≤ n := by omega
  have a2 : n ≤ 131072 := by omega
  obtain ⟨i0, hi, hz0, hz1, hz2⟩ := info_parts intinfo
  go_enter Tryz.func174, Tryz.ntmps174
  go_wp2
  go_loopw [0, 3] (fun x v wr => ∃ k : Nat, k ≤ chK n ∧ x = .int .i64 (n - 8 * k) ∧ OwI 3 w.heap.size wr v (List.replicate k 8) ∧ Below w.heap.size w wr) (fun x _ _ => (intOf x).toNat)
  case atStart => exact ⟨0, by omega, by simp, OwI.nil _ _ _, Below.refl _ _⟩
  case round =>
    obtain ⟨k, hk, rfl, hown, hbel⟩ := hrel
    have hsz := hbel.size
    unfold OwI at hown
    rw [List.length_replicate] at hown
    by_cases hlt : k < chK n
    · go_wp2_with (at_builtin; refine wpList_append_own _ rfl _ _ 250 rfl w.heap.size 3 i0 (.int .i64 0) 1 8 Tryz.underlying250 hi hz0 hz1 hz2 rfl (by decide) _ _ _ rfl (hown.alloc _) ⟨wr.heap.size, 0, none⟩ 1 1 [.int .i64 8] rfl rfl ?c1 ?c2 ?c3 ?c4 ?c5 ?_)
      case c1 => exact cell_one_new _ _ _
      case c2 => simp [Value.oneCell']
      case c3 => unfold maxLen; omega
      case c4 => omega
      case c5 => first | omega | (simp; omega)
      intro v' w1 hown' hgrow _
      have er : List.replicate k (Value.int .i64 8) = (List.replicate k 8).map (Value.int .i64) := by simp
      rw [er] at hown'
      have hrel := OwI.push 8 (List.length_replicate (n := k)) hown hown' hgrow hbel hsz
      rw [← List.replicate_succ'] at hrel
      clear hown hown' hgrow hbel
      go_wp2
      go_roundw
      case rel => exact ⟨k + 1, by omega, int_eq (by omega), hrel.1, hrel.2⟩
      case measure => simp [intOf]; omega
    · obtain rfl : k = chK n := by omega
      have HS := Lib.hid (chL_in a1 a2)
      generalize chK n = k at *
      go_wp2_with (at_builtin; refine wpList_append_own _ rfl _ _ 250 rfl w.heap.size 3 i0 (.int .i64 0) 1 8 Tryz.underlying250 hi hz0 hz1 hz2 rfl (by decide) _ _ _ rfl (hown.alloc _) ⟨wr.heap.size, 0, none⟩ 1 1 [.int .i64 (n - 8 * k)] rfl rfl ?d1 ?d2 ?d3 ?d4 ?d5 ?_)
      try case d1 => exact cell_one_new _ _ _
      case d2 => simp [Value.oneCell']
      case d3 => unfold maxLen; omega
      case d4 => omega
      case d5 => first | omega | (simp; omega)
      intro v' w1 hown' hgrow _
      have er : List.replicate k (Value.int .i64 8) = (List.replicate k 8).map (Value.int .i64) := by simp
      rw [er] at hown'
      have hrel := OwI.push (n - 8 * k) (List.length_replicate (n := k)) hown hown' hgrow hbel hsz
      rw [← HS.out] at hrel
      clear hown hown' hgrow hbel
      go_wp2
      go_ret
      exact ⟨_, rfl, hrel.1, hrel.2⟩
theorem wChunks_out (n : Int) (w : World) (hn0 : -9223372036854775808 ≤ n) (h : n < 1 ∨ 131072 < n) :
    Calls Tryz.prog 195 #[.int .i64 n] w fun e w' => e = .returned (.slice none 0 0) ∧ w = w' := by
  by_cases c1 : n < 1
  · clear h
    go_enter Tryz.func195, Tryz.ntmps195
    go_wp2
    go_ret
    exact ⟨rfl, rfl⟩
  · have c2 : 131072 < n := by omega
    clear h
    go_enter Tryz.func195, Tryz.ntmps195
    go_wp2
    go_ret
    exact ⟨rfl, rfl⟩
theorem wChunks_in (n : Int) (w : World) (h1 : 1 ≤ n) (h2 : n ≤ 131072) :
    Calls Tryz.prog 195 #[.int .i64 n] w fun e w' => ∃ g cap, e = .returned (.slice (some ⟨g, 0, none⟩) (chL n).length cap) ∧ g < w'.heap.size ∧ (chL n).length ≤ cap ∧ cap ≤ maxLen ∧ (∀ i, i < (chL n).length → w'.cell? ⟨g, i, none⟩ = some (.int .i64 (gB (chL n) i))) ∧ Below w.heap.size w w' := by
  refine (wChunks_any n w (by omega)).mono ?_
  rintro e w' ⟨v, rfl, own, hb⟩
  obtain ⟨g, cap, rfl, _, hg, hc, hm, hcell⟩ := own.slice (by rw [chL_in h1 h2]; simp)
  exact ⟨g, cap, rfl, hg, hc, hm, hcell, hb⟩
theorem refChunks_out (n : Int) (w : World) (hn0 : -9223372036854775808 ≤ n) (h : n < 1 ∨ 131072 < n) :
    Calls Tryz.prog 174 #[.int .i64 n] w fun e w' => e = .returned (.slice none 0 0) ∧ w = w' := by
  by_cases c1 : n < 1
  · clear h
    go_enter Tryz.func174, Tryz.ntmps174
    go_wp2
    refine wp_loop_rounds 1 ?_; rw [rounds_succ]
    go_wp2
    go_ret
    exact ⟨rfl, rfl⟩
  · have c2 : 131072 < n := by omega
    clear h
    go_enter Tryz.func174, Tryz.ntmps174
    go_wp2
    go_ret
    exact ⟨rfl, rfl⟩
theorem refChunks_in (n : Int) (w : World) (h1 : 1 ≤ n) (h2 : n ≤ 131072) :
    Calls Tryz.prog 174 #[.int .i64 n] w fun e w' => ∃ g cap, e = .returned (.slice (some ⟨g, 0, none⟩) (chL n).length cap) ∧ g < w'.heap.size ∧ (chL n).length ≤ cap ∧ cap ≤ maxLen ∧ (∀ i, i < (chL n).length → w'.cell? ⟨g, i, none⟩ = some (.int .i64 (gB (chL n) i))) ∧ Below w.heap.size w w' := by
  refine (refChunks_any n w (by omega)).mono ?_
  rintro e w' ⟨v, rfl, own, hb⟩
  obtain ⟨g, cap, rfl, _, hg, hc, hm, hcell⟩ := own.slice (by rw [chL_in h1 h2]; simp)
  exact ⟨g, cap, rfl, hg, hc, hm, hcell, hb⟩
end Go.Proofs.YtpicplkbblmbeaaGreat
