/- One machine alone in a world: New, Robin. Conditions: as each says. -/
import Derived.Test.YtpicplkbblmbeaaSj
import Derived.Test.YtpicplkbblmbeaaSk
namespace Go.Proofs.Ytpicplkbblmbeaa
set_option maxRecDepth 100000
open Go.RowKit
set_option linter.unusedVariables false
set_option linter.unusedSimpArgs false
/-- A machine goes on over bytes, so many steps. -/
inductive Runs (M : Mac) : M.σ → List Int → Nat → M.σ → List Int → Prop
  | refl (s : M.σ) (bs : List Int) : Runs M s bs 0 s bs
  | step {s : M.σ} {bs : List Int} {n : Nat} {s' : M.σ} {bs' : List Int} (hl : M.live s = true) (he : (M.want s).err bs.length = 0) (h : Runs M (M.step s ((M.want s).ans bs)) ((M.want s).out bs) n s' bs') : Runs M s bs (n + 1) s' bs'
theorem Runs.trans {M : Mac} {s s' s'' : M.σ} {bs bs' bs'' : List Int} {n m : Nat} (h : Runs M s bs n s' bs') (k : Runs M s' bs' m s'' bs'') : Runs M s bs (n + m) s'' bs'' := by
  induction h with
  | refl => rw [Nat.zero_add]; exact k
  | step hl he _ ih => rw [Nat.add_right_comm]; exact .step hl he (ih k)
theorem Runs.one {M : Mac} {s : M.σ} {bs : List Int} (hl : M.live s = true) (he : (M.want s).err bs.length = 0) : Runs M s bs 1 (M.step s ((M.want s).ans bs)) ((M.want s).out bs) := .step hl he (.refl _ _)
/-- One actor's world. -/
def Solo {σ : Type} (S : SW σ) : Prop := ∃ s d, S.acts = [⟨some s, d⟩]
theorem Solo.pick {M : Mac} {S : SW M.σ} (h : Solo S) : Solo (M.pick S 0 0 0).1 := by
  obtain ⟨s, d, h⟩ := h
  have ha : Solo (M.act S 0 0).1 := by
    unfold Mac.act
    rw [if_neg (by omega), h]
    simp only [Int.toNat_zero, List.getElem?_cons_zero]
    split
    · exact ⟨s, d, h⟩
    rw [if_neg (by omega)]
    unfold Mac.stepA
    dsimp only
    split
    · exact ⟨s, d, h⟩
    split
    · rw [h]
      exact ⟨_, _, rfl⟩
    · rw [h]
      exact ⟨_, _, rfl⟩
  obtain ⟨s', d', h'⟩ := ha
  unfold Mac.pick
  rw [if_neg (by omega), if_pos (.inl rfl)]
  split
  · exact ⟨s', d', h'⟩
  · exact ⟨s', d', h'⟩
theorem Solo.rob {M : Mac} (most : Int) : ∀ (f : Nat) (S : SW M.σ) (n : Int), Solo S → Solo (M.rob most f S n).1 := by
  intro f
  induction f with
  | zero => intro S n h; exact h
  | succ f ih =>
    intro S n h
    have hr : Solo (M.row most (List.range S.acts.length) S n false).1 := by
      have hl : S.acts.length = 1 := by obtain ⟨s, d, e⟩ := h; rw [e]; rfl
      rw [hl, show List.range 1 = [0] from rfl]
      unfold Mac.row
      split
      · exact h
      split
      · exact h
      · unfold Mac.row
        exact h.pick
    unfold Mac.rob
    split
    · exact ih _ _ hr
    · exact hr
theorem Solo.robin {M : Mac} {S : SW M.σ} (h : Solo S) (most : Int) : Solo (M.robin most S).1 := Solo.rob most _ S 0 h
theorem pick_live {M : Mac} {S : SW M.σ} {s : M.σ} (h : S.acts = [⟨some s, false⟩]) (hl : M.live s = true) (he : (M.want s).err S.bs.length = 0) :
    (M.pick S 0 0 0).1.acts = [⟨some (M.step s ((M.want s).ans S.bs)), false⟩] ∧ (M.pick S 0 0 0).1.bs = (M.want s).out S.bs ∧ (M.pick S 0 0 0).1.cnt = S.cnt + 1 := by
  have ha : M.act S 0 0 = ({ S with bs := (M.want s).out S.bs, cnt := S.cnt + 1, acts := [⟨some (M.step s ((M.want s).ans S.bs)), false⟩] }, (M.want s, (M.want s).ans S.bs), 0) := by
    unfold Mac.act
    rw [if_neg (by omega), h]
    simp only [Int.toNat_zero, List.getElem?_cons_zero]
    rw [if_neg (by nofun), if_neg (by omega)]
    unfold Mac.stepA
    dsimp only
    rw [if_neg (by rw [hl]; nofun), if_pos he, h]
    rfl
  unfold Mac.pick
  rw [if_neg (by omega), if_pos (.inl rfl), ha]
  exact ⟨rfl, rfl, rfl⟩
theorem rob_runs {M : Mac} (most : Int) {s s' : M.σ} {bs bs' : List Int} {k : Nat} (h : Runs M s bs k s' bs') (hend : M.live s' = false) : ∀ (f : Nat) (S : SW M.σ) (n : Int), k < f → n + k ≤ most → S.acts = [⟨some s, false⟩] → S.bs = bs →
    (M.rob most f S n).2 = n + k ∧ (M.rob most f S n).1.acts = [⟨some s', false⟩] ∧ (M.rob most f S n).1.bs = bs' ∧ (M.rob most f S n).1.cnt = S.cnt + k := by
  induction h with
  | refl s bs =>
    intro f S n hf hn ha hb
    obtain ⟨f, rfl⟩ : ∃ g, f = g + 1 := ⟨f - 1, by omega⟩
    have hr : M.row most (List.range S.acts.length) S n false = (S, n, false, false) := by
      rw [ha, show List.range [(⟨some s, false⟩ : Ac M.σ)].length = [0] from rfl]
      unfold Mac.row
      rw [if_pos (by unfold Mac.goesAt Mac.goes Mac.lives; rw [ha]; simp [hend])]
      rfl
    unfold Mac.rob
    rw [hr, if_neg (by simp)]
    exact ⟨by simp, ha, hb, by simp⟩
  | @step s bs k s' bs' hl he _ ih =>
    intro f S n hf hn ha hb
    obtain ⟨f, rfl⟩ : ∃ g, f = g + 1 := ⟨f - 1, by omega⟩
    subst hb
    obtain ⟨p1, p2, p3⟩ := pick_live (M := M) ha hl he
    have hr : M.row most (List.range S.acts.length) S n false = ((M.pick S 0 0 0).1, n + 1, true, false) := by
      have hl1 : S.acts.length = 1 := by rw [ha]; rfl
      rw [hl1, show List.range 1 = [0] from rfl]
      unfold Mac.row
      rw [if_neg (by unfold Mac.goesAt Mac.goes Mac.lives; rw [ha]; simp [hl]), if_neg (by omega)]
      rfl
    unfold Mac.rob
    rw [hr, if_pos ⟨rfl, rfl⟩]
    obtain ⟨i1, i2, i3, i4⟩ := ih hend f (M.pick S 0 0 0).1 (n + 1) (by omega) (by omega) p1 p2
    refine ⟨by rw [i1]; omega, i2, i3, ?_⟩
    dsimp only at i4 ⊢
    rw [i4, p3]
    omega
theorem robin_runs {M : Mac} (most : Int) {s s' : M.σ} {bs bs' : List Int} {k : Nat} (h : Runs M s bs k s' bs') (hend : M.live s' = false) (hk : k ≤ most) (cnt : Int) :
    (M.robin most ⟨bs, cnt, [⟨some s, false⟩], 0, []⟩).2 = k ∧ (M.robin most ⟨bs, cnt, [⟨some s, false⟩], 0, []⟩).1.acts = [⟨some s', false⟩] ∧ (M.robin most ⟨bs, cnt, [⟨some s, false⟩], 0, []⟩).1.bs = bs' ∧ (M.robin most ⟨bs, cnt, [⟨some s, false⟩], 0, []⟩).1.cnt = cnt + k := by
  have := rob_runs most h hend (most.toNat + 2) ⟨bs, cnt, [⟨some s, false⟩], 0, []⟩ 0 (by omega) (by omega) rfl rfl
  unfold Mac.robin
  exact ⟨by rw [this.1]; simp, this.2⟩
/-- What blocks are for, where one machine's world is about to be made. -/
noncomputable def kdS (p c : Nat) (F : Nat → Prop) : Nat → Kd := fun i => open Classical in if i = p ∨ i = c then .bu else if F i then .ma 0 else .no
theorem soloNew (C : Fam) {w : World} {p c : Nat} {cnt : Int} {bs : List Int} {F : Nat → Prop} {q g : Nat} {s : C.M.σ} (hB : Buf w p c cnt bs) (hi : C.inv w F q s) (hp : ¬ F p) (hc : ¬ F c) (hg : Blk w g [.iface (C.ty s) (.pointer (some ⟨q, 0, none⟩))]) :
    Calls Try.prog 13 #[.pointer (some ⟨p, 0, none⟩), .slice (some ⟨g, 0, none⟩) 1 1] w fun e w' => ∃ W κ av ab, e = .returned (.pointer (some ⟨W, 0, none⟩)) ∧ WoIn C w' κ W p c av nilSl ab ⟨bs, cnt, [⟨some s, false⟩], 0, []⟩ ∧ (∀ i, i < w.heap.size → κ i = kdS p c F i) ∧ w.heap.size ≤ W ∧ Below w.heap.size w w' := by
  have hd := C.dom hi
  have hF : ∀ i, kdS p c F i = .ma 0 ↔ F i := by
    intro i
    unfold kdS
    constructor
    · intro h
      split at h
      · cases h
      split at h
      · assumption
      · cases h
    · intro h
      rw [if_neg (by rintro (rfl | rfl); exact hp h; exact hc h), if_pos h]
  refine wNew_any C w (kdS p c F) p c cnt bs 1 (fun _ => .iface (C.ty s) (.pointer (some ⟨q, 0, none⟩))) [some s] g 0 1 (by omega) (Nat.le_refl _) (by unfold maxLen; omega) hB (by unfold kdS; rw [if_pos (.inl rfl)]) (by unfold kdS; rw [if_pos (.inr rfl)]) rfl (by omega) ?_ ?_ ?_ ?_ ?_
  · intro i hi
    obtain rfl : i = 0 := by omega
    exact hg.cell 0
  · intro i hi
    rfl
  · intro i m hm
    match i, hm with
    | 0, hm =>
      cases (show some (some s) = some m from hm)
      exact ⟨q, rfl, C.mono hi (fun j hj => (hF j).2 hj) (fun j hj => hd.2 j ((hF j).1 hj))⟩
    | i + 1, hm => simp at hm
  · intro k hk
    unfold kdS at hk
    split at hk
    · rename_i h
      rcases h with rfl | rfl
      · exact hB.hd.lt
      · exact Blk.lt hB.wd
    split at hk
    · exact hd.2 k (by assumption)
    · exact absurd rfl hk
  · intro k i
    unfold kdS
    split
    · exact ⟨nofun, nofun, nofun, nofun, nofun⟩
    split
    · exact ⟨nofun, nofun, nofun, nofun, nofun⟩
    · exact ⟨nofun, nofun, nofun, nofun, nofun⟩
/-- What is left where one machine's world went on. -/
structure SoloPost (C : Fam) (w0 w' : World) (p c : Nat) (F : Nat → Prop) (R : SW C.M.σ) : Prop where
  ex : ∃ s' d F' q', R.acts = [⟨some s', d⟩] ∧ C.inv w' F' q' s' ∧ ¬ F' p ∧ ¬ F' c ∧ (∀ i, F' i → F i ∨ w0.heap.size ≤ i)
  buf : Buf w' p c R.cnt R.bs
  keep : Keep (fun i => F i ∨ i = p ∨ i = c) w0 w'
theorem soloRobin (C : Fam) {w0 w : World} {κ : Nat → Kd} {W p c : Nat} {cnt : Int} {bs : List Int} {av : Value} {ab : Nat → Nat} {F : Nat → Prop} {s : C.M.σ} (h : WoIn C w κ W p c av nilSl ab ⟨bs, cnt, [⟨some s, false⟩], 0, []⟩) (hk : ∀ i, i < w0.heap.size → κ i = kdS p c F i) (hb : Below w0.heap.size w0 w) (hp : p < w0.heap.size) (hc : c < w0.heap.size) (most : Int) (hm : most ≤ 900000) (hc0 : 0 ≤ cnt) (hc1 : cnt ≤ 1000000000000) :
    Calls Try.prog 17 #[.pointer (some ⟨W, 0, none⟩), .int .i64 most] w fun e w' => e = .returned (.int .i64 (C.M.robin most ⟨bs, cnt, [⟨some s, false⟩], 0, []⟩).2) ∧ SoloPost C w0 w' p c F (C.M.robin most ⟨bs, cnt, [⟨some s, false⟩], 0, []⟩).1 := by
  refine (wRobin_any h most hm hc0 hc1 (by simp) (by simp)).mono ?_
  rintro e w' ⟨rfl, κ', tv', h', hκ, kp⟩
  have zb := hb.size
  have hS : Solo (C.M.robin most ⟨bs, cnt, [⟨some s, false⟩], 0, []⟩).1 := Solo.robin ⟨s, false, rfl⟩ most
  obtain ⟨s', d, hS⟩ := hS
  refine ⟨rfl, ⟨?_, h'.buf, ?_⟩⟩
  · obtain ⟨_, mv, _, q', _, hi⟩ := h'.act 0 ⟨some s', d⟩ (by rw [hS]; rfl)
    refine ⟨s', d, _, q', hS, hi, ?_, ?_, ?_⟩
    · rw [h'.kp]; nofun
    · rw [h'.kc]; nofun
    · intro i hi2
      by_cases hlt : i < w0.heap.size
      · left
        rw [hκ i (by omega), hk i hlt] at hi2
        unfold kdS at hi2
        split at hi2
        · cases hi2
        split at hi2
        · assumption
        · cases hi2
      · right
        omega
  · refine Keep.then (Below.keeps (M := fun i => F i ∨ i = p ∨ i = c) hb) kp (fun i hi hn => ?_)
    rw [hk i hi] at hn
    unfold kdS at hn
    split at hn
    · exact .inr (by assumption)
    split at hn
    · exact .inl (by assumption)
    · exact absurd rfl hn
end Go.Proofs.Ytpicplkbblmbeaa
