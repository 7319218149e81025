/- One machine alone in a world, some rounds. Conditions: none. -/
import Derived.Test.YtggjhleomocojaaGreatQb
namespace Go.Proofs.YtggjhleomocojaaGreat
open Go.RowKit
set_option linter.unusedVariables false
theorem rob_upto {M : Mac} (most : Int) {s s' : M.σ} {bs bs' : List Int} {k : Nat} (h : Runs M s bs k s' bs') : ∀ (f : Nat) (S : SW M.σ) (n : Int), (M.live s' = false ∧ n + k ≤ most) ∨ n + k = most → k < f → S.acts = [⟨some s, false⟩] → S.bs = bs →
  (M.rob most f S n).2 = n + k ∧ (M.rob most f S n).1.acts = [⟨some s', false⟩] ∧ (M.rob most f S n).1.bs = bs' ∧ (M.rob most f S n).1.cnt = S.cnt + k := by
 induction h with
 | refl s bs =>
  intro f S n he hf ha hb
  obtain ⟨f, rfl⟩ : ∃ g, f = g + 1 := ⟨f - 1, by omega⟩
  by_cases hl : M.live s = true
  ·have hr : M.row most (List.range S.acts.length) S n false = (S, n, false, true) := by
    rw [ha, show List.range [(⟨some s, false⟩ : Ac M.σ)].length = [0] from rfl]
    unfold Mac.row
    rw [if_neg (by unfold Mac.goesAt Mac.goes Mac.lives; rw [ha]; simp [hl]), if_pos (by
     rcases he with ⟨he, _⟩ | he
     ·rw [hl] at he; cases he
     ·simp at he; omega)]
   unfold Mac.rob
   rw [hr, if_neg (by simp)]
   exact ⟨by simp, ha, hb, by simp⟩
  ·have hr : M.row most (List.range S.acts.length) S n false = (S, n, false, false) := by
    rw [ha, show List.range [(⟨some s, false⟩ : Ac M.σ)].length = [0] from rfl]
    unfold Mac.row
    rw [if_pos (by unfold Mac.goesAt Mac.goes Mac.lives; rw [ha]; simp [hl])]
    rfl
   unfold Mac.rob
   rw [hr, if_neg (by simp)]
   exact ⟨by simp, ha, hb, by simp⟩
 | @step s bs k s' bs' hl he _ ih =>
  intro f S n hend hf ha hb
  obtain ⟨f, rfl⟩ : ∃ g, f = g + 1 := ⟨f - 1, by omega⟩
  subst hb
  obtain ⟨p1, p2, p3⟩ := pick_live (M := M) ha hl he
  have hr : M.row most (List.range S.acts.length) S n false = ((M.pick S 0 0 0).1, n + 1, true, false) := by
   have hl1 : S.acts.length = 1 := by rw [ha]; rfl
   rw [hl1, show List.range 1 = [0] from rfl]
   unfold Mac.row
   rw [if_neg (by unfold Mac.goesAt Mac.goes Mac.lives; rw [ha]; simp [hl]), if_neg (by rcases hend with ⟨_, h⟩ | h <;> omega)]
   rfl
  unfold Mac.rob
  rw [hr, if_pos ⟨rfl, rfl⟩]
  obtain ⟨i1, i2, i3, i4⟩ := ih f (M.pick S 0 0 0).1 (n + 1) (by rcases hend with ⟨h1, h2⟩ | h; exact .inl ⟨h1, by omega⟩; exact .inr (by omega)) (by omega) p1 p2
  refine ⟨by rw [i1]; omega, i2, i3, ?_⟩
  dsimp only at i4 ⊢
  rw [i4, p3]
  omega
theorem robin_upto {M : Mac} (most : Int) {s s' : M.σ} {bs bs' : List Int} {k : Nat} (h : Runs M s bs k s' bs') (hend : (M.live s' = false ∧ (k : Int) ≤ most) ∨ (k : Int) = most) (cnt : Int) :
  (M.robin most ⟨bs, cnt, [⟨some s, false⟩], 0, []⟩).2 = k ∧ (M.robin most ⟨bs, cnt, [⟨some s, false⟩], 0, []⟩).1.acts = [⟨some s', false⟩] ∧ (M.robin most ⟨bs, cnt, [⟨some s, false⟩], 0, []⟩).1.bs = bs' ∧ (M.robin most ⟨bs, cnt, [⟨some s, false⟩], 0, []⟩).1.cnt = cnt + k := by
 have := rob_upto most h (most.toNat + 2) ⟨bs, cnt, [⟨some s, false⟩], 0, []⟩ 0 (by rw [Int.zero_add]; exact hend) (by omega) rfl rfl
 unfold Mac.robin
 exact ⟨by rw [this.1]; simp, this.2⟩
theorem SoloPost.of {C : Fam} {w0 w' : World} {p c : Nat} {F : Nat → Prop} {R : SW C.M.σ} {s' : C.M.σ} (h : SoloPost C w0 w' p c F R) (ha : R.acts = [⟨some s', false⟩]) :
  ∃ F' q', C.inv w' F' q' s' ∧ ¬ F' p ∧ ¬ F' c ∧ ∀ i, F' i → F i ∨ w0.heap.size ≤ i := by
 obtain ⟨s2, d, F', q', h1, h2, h3, h4, h5⟩ := h.ex
 rw [ha] at h1
 cases h1
 exact ⟨F', q', h2, h3, h4, h5⟩
end Go.Proofs.YtggjhleomocojaaGreat
