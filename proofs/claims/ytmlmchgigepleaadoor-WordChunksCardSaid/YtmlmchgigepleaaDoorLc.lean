/- The law WordChunks walked: true, and nothing that was there has turned. Conditions: the argument is in its kind's range; the table of math/bits holds what the text of the library lays. -/
import Derived.Test.YtmlmchgigepleaaDoorLa
namespace Go.Proofs.YtmlmchgigepleaaDoor
open Go.RowKit
set_option linter.unusedVariables false
/-- The sum of a list. -/
def smL : List Int → Int
  | [] => 0
  | x :: r => x + smL r
theorem smL_append (a b : List Int) : smL (a ++ b) = smL a + smL b := by induction a <;> simp_all [smL]; omega
theorem smL_rep (k : Nat) (x : Int) : smL (List.replicate k x) = k * x := by
  induction k with
  | zero => simp [smL]
  | succ k ih => rw [List.replicate_succ, smL, ih]; simp [Int.add_mul]; omega
theorem smL_snoc (l : List Int) (k : Nat) (h : k < l.length) : smL (l.take (k + 1)) = smL (l.take k) + gB l k := by
  rw [List.take_succ_eq_append_getElem h, smL_append]
  simp [smL, gB, h]
theorem chL_sum {n : Int} (h1 : 1 ≤ n) (h2 : n ≤ 131072) : smL (chL n) = n := by
  rw [chL_in h1 h2, smL_append, smL_rep]; simp [smL]; omega
theorem chL_bd (n : Int) : ∀ x ∈ chL n, 1 ≤ x ∧ x ≤ 8 := by
  intro x hx
  by_cases h : n < 1 ∨ 131072 < n
  · rw [chL_out h] at hx; cases hx
  · rw [chL_in (by omega) (by omega)] at hx
    have hk := chK_bd (n := n) (by omega)
    rcases List.mem_append.1 hx with hx | hx
    · obtain ⟨_, rfl⟩ := List.mem_replicate.1 hx; omega
    · simp at hx; omega
theorem chL_at (n : Int) (k : Nat) (h : k < (chL n).length) : 1 ≤ gB (chL n) k ∧ gB (chL n) k ≤ 8 := by
  have := chL_bd n (chL n)[k] (by simp)
  simpa [gB, h] using this
theorem smL_part (l : List Int) (hb : ∀ k, k < l.length → 1 ≤ gB l k ∧ gB l k ≤ 8) (k : Nat) (hk : k ≤ l.length) : 0 ≤ smL (l.take k) ∧ smL (l.take k) ≤ 8 * k := by
  induction k with
  | zero => simp [smL]
  | succ k ih =>
    rw [smL_snoc l k (by omega)]
    have := ih (by omega)
    have := hb k (by omega)
    omega
theorem chL_len (n : Int) : (chL n).length ≤ 16384 := by
  by_cases h : n < 1 ∨ 131072 < n
  · rw [chL_out h]; simp
  · rw [chL_in (by omega) (by omega)]
    have hk := chK_bd (n := n) (by omega)
    simp; omega
theorem neq_self (x : Int) : (x != x) = false := by simp
set_option maxHeartbeats 2000000 in
/-- law01.WordChunks -/
theorem wordChunks_walk (n : Int) (wn : (Lit.int .i64 n).wf = true) (w : World) (hT : TabOk w) :
    Calls Tryd.prog 8 #[.int .i64 n] w fun e w' => e = .returned (.bool true) ∧ Below w.heap.size w w' := by
  obtain ⟨n0, n1⟩ := i64_bd wn
  have HT := Lib.hid hT
  clear wn hT
  by_cases c1 : 5000 < n ∧ n ≤ 131072
  · obtain ⟨c2, c3⟩ := c1
    go_enter Tryd.func8, Tryd.ntmps8
    go_wp2_with (go_at_call 10; refine (fixed01_any _ HT.out).mono ?_; rintro e w1 ⟨rfl, hb⟩)
    go_ret
    exact ⟨rfl, hb⟩
  by_cases c2 : n < 1 ∨ 131072 < n
  · have C2 := Lib.hid c2
    rcases c2 with c2 | c2
    all_goals
      clear c1
      go_enter Tryd.func8, Tryd.ntmps8
      go_wp2_with (first
        | (go_at_call 10; refine (fixed01_any _ HT.out).mono ?_; rintro e w1 ⟨rfl, hb⟩)
        | (go_at_call 37; refine (wChunks_out _ _ n0 C2.out).mono ?_; rintro e w' ⟨rfl, rfl⟩)
        | (go_at_call 38; refine (refChunks_out _ _ n0 C2.out).mono ?_; rintro e w' ⟨rfl, rfl⟩))
      refine wp_loop_rounds 1 ?_; rw [rounds_succ]
      go_wp2
      all_goals
        go_ret
        exact ⟨rfl, hb⟩
  · have c3 : 1 ≤ n := by omega
    have c4 : n ≤ 5000 := by omega
    have c5 : n ≤ 131072 := by omega
    have hlen := chL_len n
    have HSM := Lib.hid (chL_sum c3 c5)
    clear c1 c2
    go_enter Tryd.func8, Tryd.ntmps8
    go_wp2_with (first
      | (go_at_call 10; refine (fixed01_any _ HT.out).mono ?_; rintro e w1 ⟨rfl, hb⟩)
      | (go_at_call 37; refine (wChunks_in _ _ c3 c5).mono ?_; rintro e w2 ⟨g2, cap2, rfl, hg2, hc2, hm2, hcell2, hb2⟩; have H2 := Lib.hid hcell2; clear hcell2)
      | (go_at_call 38; refine (refChunks_in _ _ c3 c5).mono ?_; rintro e w3 ⟨g3, cap3, rfl, hg3, hc3, hm3, hcell3, hb3⟩; have H3 := Lib.hid hcell3; clear hcell3))
    have HB : Hid (Below w.heap.size w w3) := hb.trans ((hb2.trans (hb3.mono hb2.size)).mono hb.size)
    have H2' : Hid (∀ i, i < (chL n).length → w3.cell? ⟨g2, i, none⟩ = some (.int .i64 (gB (chL n) i))) := fun i hi => by rw [hb3.cell (p := ⟨g2, i, none⟩) hg2]; exact H2.out i hi
    clear H2 hb hb2 hb3
    have hL := chL_at n
    have HP := Lib.hid (smL_part (chL n) hL)
    have HL := Lib.hid hL
    clear hL
    have HSN := Lib.hid (smL_snoc (chL n))
    generalize chL n = l at *
    go_loopw [5, 21] (fun s i wr => ∃ k : Nat, k ≤ l.length ∧ i = .int .i64 k ∧ s = .int .i64 (smL (l.take k)) ∧ Hid (wr.heap = w3.heap ∧ Below w3.heap.size w3 wr)) (fun _ i _ => l.length - (intOf i).toNat)
    case atStart => exact ⟨0, by omega, rfl, by simp [smL], rfl, Below.refl _ _⟩
    case round =>
      obtain ⟨k, hk, rfl, rfl, hw⟩ := hrel
      by_cases hlt : k < l.length
      · have hp := HP.out k hk
        have hp1 := HP.out (k + 1) (by omega)
        obtain ⟨q1, q2⟩ := HL.out k hlt
        have ec : ∀ a, wr.cell? a = w3.cell? a := fun a => by simp [World.cell?, hw.out.1]
        have k2 : wr.cell? ⟨g2, k, none⟩ = some (.int .i64 (gB l k)) := by rw [ec]; exact H2'.out k hlt
        have k3 : wr.cell? ⟨g3, k, none⟩ = some (.int .i64 (gB l k)) := by rw [ec]; exact H3.out k hlt
        have HS := Lib.hid (HSN.out k hlt)
        clear ec
        rw [HS.out] at hp1
        have d0 : decide ((l.length : Int) ≤ k) = false := by simp; omega
        have d1 : (gB l k != gB l k) = false := by simp
        have d2 : decide (gB l k < 1) = false := by simp; omega
        have d3 : decide (8 < gB l k) = false := by simp; omega
        have i1 : (k : Int) < (l.length : Int) := by omega
        have i2 : (0 : Int) ≤ (k : Int) := by omega
        go_wp2_with fail
        go_quiet (fail)
        go_wp2
        refine ⟨⟨k + 1, by omega, by go_num, int_eq HS.out.symm, ?_⟩, by simp [intOf]; omega⟩
        exact ⟨hw.out.1, bel_drewN _ hw.out.2⟩
      · obtain rfl : k = l.length := by omega
        rw [List.take_length, HSM.out]
        go_wp2
        go_ret
        exact ⟨rfl, HB.out.trans (hw.out.2.mono HB.out.size)⟩
end Go.Proofs.YtmlmchgigepleaaDoor
