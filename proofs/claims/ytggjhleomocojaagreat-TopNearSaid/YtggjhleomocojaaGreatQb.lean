/- A nil put; puts as a family of machines. Conditions: as each says. One machine alone in a world: New, Robin. Conditions: as each says. -/
import Derived.Test.YtggjhleomocojaaGreatPi
import Derived.Test.YtggjhleomocojaaGreatSj
section
namespace Go.Proofs.YtggjhleomocojaaGreat
set_option maxRecDepth 100000
open Go.RowKit
set_option linter.unusedVariables false
set_option linter.unusedSimpArgs false
variable {q : Nat} {m : PutM}
set_option maxHeartbeats 2000000 in
theorem pTake_end {O : Nat → Prop} {bv : Value} (x : AN) (s0 : Option Addr) (sl sc : Nat) (w : World) (h : PutI w O q m bv) (hl : m.live = false) :
  Calls Tryz.prog 215 #[.pointer (some ⟨q, 0, none⟩), .agg #[.int .u64 x.v, .bool x.d, .slice s0 sl sc]] w fun e w' => e = .returned (.tuple #[]) ∧ Below w.heap.size w w' := by
 have hm : ∃ c, Mch w q c .nilFunc (m.rest bv) := by
  have ha := h.at_
  obtain ⟨c, pc, hd, pos, cl, e⟩ := m
  cases pc with
  | done => obtain ⟨t, hm, rfl⟩ := ha; exact ⟨_, hm⟩
  | _ => cases hl
 obtain ⟨c, hm⟩ := hm
 have hlt : q < w.heap.size := Blk.lt hm
 have HM := Lib.hid hm
 clear h hm
 go_enter Tryz.func215, Tryz.ntmps215
 go_wp2_with fail
 go_region_held3 (fun w' => w'.cell? ⟨w.heap.size, 0, none⟩ = some (.int .u64 x.v) ∧ w'.cell? ⟨w.heap.size, 1, none⟩ = some (.bool x.d) ∧ w'.cell? ⟨w.heap.size, 2, none⟩ = some (.slice s0 sl sc)) (first | go_keep | trivial)
  (first
   | (go_at_call 192; refine (cTake_end q c _ x.v x.d s0 sl sc _ (Blk.below HM.out (by go_grown) hlt)).mono ?_; rintro e w2 ⟨rfl, b2⟩; have hc := fun o => b2.cell (p := ⟨w.heap.size, o, none⟩) (by simp)))
 all_goals
  clear hc
  go_wp2
  go_end0
  refine ⟨rfl, ?_⟩
  exact (bel_drewN 1 ((Below.refl w.heap.size w).alloc (Nat.le_refl _) _)).trans (b2.mono (by simp))
def putMac : Mac := ⟨PutM, PutM.live, PutM.want, PutM.step⟩
def putMacQ : Mac := ⟨Nat × PutM, fun s => s.2.live, fun s => s.2.want, fun s x => (s.1, s.2.step x)⟩
theorem pM_next (b : Nat) (w : World) : (method (Tryz.prog.types.size + Made.depth) 97 (.pointer (some ⟨b, 0, none⟩)) "Next").run Tryz.prog w = .ok (214, .pointer (some ⟨b, 0, none⟩)) w := by kernel_rfl
theorem pM_take (b : Nat) (w : World) : (method (Tryz.prog.types.size + Made.depth) 97 (.pointer (some ⟨b, 0, none⟩)) "Take").run Tryz.prog w = .ok (215, .pointer (some ⟨b, 0, none⟩)) w := by kernel_rfl
theorem enPN (args : Array Value) (w : World) : (callFunc 214 args).run Tryz.prog w = .ok (.enter 214 args) w :=
 enters_of Tryz.func214 (by kernel_rfl) rfl args w
theorem enPT (args : Array Value) (w : World) : (callFunc 215 args).run Tryz.prog w = .ok (.enter 215 args) w :=
 enters_of Tryz.func215 (by kernel_rfl) rfl args w
def PutF (w : World) (F : Nat → Prop) (q : Nat) (m : PutM) : Prop := F q ∧ (∀ i, F i → i < w.heap.size) ∧ ∃ O bv, (∀ i, O i → F i ∧ i ≠ q) ∧ PutI w O q m bv
theorem PutF.mono {w : World} {F F' : Nat → Prop} (h : PutF w F q m) (h1 : ∀ i, F i → F' i) (h2 : ∀ i, F' i → i < w.heap.size) : PutF w F' q m := by
 obtain ⟨a1, a2, O, bv, hO, hI⟩ := h
 exact ⟨h1 q a1, h2, O, bv, fun i hi => ⟨h1 i (hO i hi).1, (hO i hi).2⟩, hI⟩
theorem PutF.keep {w w' : World} {F K : Nat → Prop} (h : PutF w F q m) (k : Keep K w w') (hd : ∀ i, F i → ¬ K i) : PutF w' F q m := by
 obtain ⟨a1, a2, O, bv, hO, hI⟩ := h
 exact ⟨a1, fun i hi => Nat.lt_of_lt_of_le (a2 i hi) k.size, O, bv, hO, hI.keep k (fun i hi => hd i (hO i hi).1) (hd q a1)⟩
theorem PutF.below {w w' : World} {F : Nat → Prop} (h : PutF w F q m) (b : Below w.heap.size w w') : PutF w' F q m := h.keep (K := fun _ => False) (Below.keeps b) (fun _ _ => id)
theorem pNew_f (b s typ : Int) (s0 : Option Addr) (sl sc : Nat) (l : List Int) (w : World) (hr : RdB w (.slice s0 sl sc) l) (hl : l.length ≤ 70368744177664) (hB : IsB l) (hb0 : -9223372036854775808 ≤ b) (hb1 : b ≤ 9223372036854775807) (hs0 : -9223372036854775808 ≤ s) (hs1 : s ≤ 9223372036854775807) :
  Calls Tryz.prog 32 #[.agg #[.int .i64 b, .int .i64 s], .int .i32 typ, .slice s0 sl sc] w fun e w' => ∃ q, e = .returned (.pointer (some ⟨q, 0, none⟩)) ∧ w.heap.size ≤ q ∧ PutF w' (fun k => w.heap.size ≤ k ∧ k < w'.heap.size) q (PutC.init ⟨b, s, typ, l⟩) ∧ Below w.heap.size w w' := by
 refine (pNew_any b s typ s0 sl sc l w hr hl hB hb0 hb1 hs0 hs1).mono ?_
 rintro e w' ⟨q, bv, rfl, h1, h2, h3, h4⟩
 exact ⟨q, rfl, h1, ⟨⟨h1, h2⟩, fun i hi => hi.2, _, bv, fun i hi => ⟨⟨hi.1, hi.2.1⟩, hi.2.2⟩, h3⟩, h4⟩
theorem pTake_f {F : Nat → Prop} (x : AN) (s0 : Option Addr) (sl sc : Nat) (w : World) (h : PutF w F q m) (hx : inU x.v) :
  Calls Tryz.prog 215 #[.pointer (some ⟨q, 0, none⟩), .agg #[.int .u64 x.v, .bool x.d, .slice s0 sl sc]] w fun e w' => e = .returned (.tuple #[]) ∧ ∃ F', PutF w' F' q (m.step x) ∧ (∀ i, F' i → F i ∨ w.heap.size ≤ i) ∧ Keep F w w' := by
 by_cases hl : m.live = true
 ·obtain ⟨a1, a2, O, bv, hO, hI⟩ := h
  refine (pTake_any x s0 sl sc w hI hl hx).mono ?_
  rintro e w' ⟨rfl, hI', k⟩
  have z := k.size
  have hq := a2 q a1
  refine ⟨rfl, fun i => F i ∨ (w.heap.size ≤ i ∧ i < w'.heap.size), ⟨.inl a1, fun i hi => ?_, _, bv, fun i hi => ?_, hI'⟩, fun i hi => hi.imp id (fun h => h.1), k.mono (fun i _ e => e ▸ a1)⟩
  ·rcases hi with hi | hi
   ·have := a2 i hi
    omega
   ·exact hi.2
  ·rcases hi with hi | hi
   ·exact ⟨.inl (hO i hi).1, (hO i hi).2⟩
   ·exact ⟨.inr hi, by omega⟩
 ·have hl' : m.live = false := by simpa using hl
  have hs : m.step x = m := by
   obtain ⟨c, pc, hd, pos, cl, e⟩ := m
   cases pc with
   | done => rfl
   | _ => cases hl'
  rw [hs]
  have h0 := h
  obtain ⟨a1, a2, O, bv, hO, hI⟩ := h
  refine (pTake_end x s0 sl sc w hI hl').mono ?_
  rintro e w' ⟨rfl, b⟩
  exact ⟨rfl, F, h0.below b, fun i hi => .inl hi, Below.keeps b⟩
def putFam : Fam where
 M := putMacQ
 inv := fun w F q s => q = s.1 ∧ PutF w F q s.2
 ty := fun _ => 97
 fn := fun _ => 214
 ft := fun _ => 215
 mn := fun _ b w => pM_next b w
 mt := fun _ b w => pM_take b w
 en := fun _ args w => enPN args w
 et := fun _ args w => enPT args w
 ts := fun _ _ => rfl
 dom := fun h => ⟨h.2.1, h.2.2.1⟩
 mono := fun h h1 h2 => ⟨h.1, h.2.mono h1 h2⟩
 keep := fun h k hd => ⟨h.1, h.2.keep k hd⟩
 wf := fun {w F q s} h => by
  obtain ⟨_, _, _, O, bv, hO, hI⟩ := h
  exact hI.fine.wf
 next := fun {w F q s} h => by
  obtain ⟨_, _, _, O, bv, hO, hI⟩ := h
  exact pNext_any w hI
 take := fun {w F q s x s0 sl sc} h hl hx hr => by
  refine (pTake_f x s0 sl sc w h.2 ⟨hx.v0, hx.v1⟩).mono ?_
  rintro e w' ⟨rfl, F', h1, h2, h3⟩
  exact ⟨rfl, F', ⟨h.1, h1⟩, h2, h3⟩
inductive Runs (M : Mac) : M.σ → List Int → Nat → M.σ → List Int → Prop
 | refl (s : M.σ) (bs : List Int) : Runs M s bs 0 s bs
 | step {s : M.σ} {bs : List Int} {n : Nat} {s' : M.σ} {bs' : List Int} (hl : M.live s = true) (he : (M.want s).err bs.length = 0) (h : Runs M (M.step s ((M.want s).ans bs)) ((M.want s).out bs) n s' bs') : Runs M s bs (n + 1) s' bs'
variable {M : Mac}
theorem Runs.trans {s s' s'' : M.σ} {bs bs' bs'' : List Int} {n m : Nat} (h : Runs M s bs n s' bs') (k : Runs M s' bs' m s'' bs'') : Runs M s bs (n + m) s'' bs'' := by
 induction h with
 | refl => rw [Nat.zero_add]; exact k
 | step hl he _ ih => rw [Nat.add_right_comm]; exact .step hl he (ih k)
def Solo {σ : Type} (S : SW σ) : Prop := ∃ s d, S.acts = [⟨some s, d⟩]
theorem Solo.pick {S : SW M.σ} (h : Solo S) : Solo (M.pick S 0 0 0).1 := by
 obtain ⟨s, d, h⟩ := h
 have ha : Solo (M.act S 0 0).1 := by
  unfold Mac.act
  rw [if_neg (by omega), h]
  simp only [Int.toNat_zero, List.getElem?_cons_zero]
  split
  ·exact ⟨s, d, h⟩
  rw [if_neg (by omega)]
  unfold Mac.stepA
  dsimp only
  split
  ·exact ⟨s, d, h⟩
  split
  ·rw [h]
   exact ⟨_, _, rfl⟩
  ·rw [h]
   exact ⟨_, _, rfl⟩
 obtain ⟨s', d', h'⟩ := ha
 unfold Mac.pick
 rw [if_neg (by omega), if_pos (.inl rfl)]
 split
 ·exact ⟨s', d', h'⟩
 ·exact ⟨s', d', h'⟩
theorem Solo.rob (most : Int) : ∀ (f : Nat) (S : SW M.σ) (n : Int), Solo S → Solo (M.rob most f S n).1 := by
 intro f
 induction f with
 | zero => intro S n h; exact h
 | succ f ih =>
  intro S n h
  have hr : Solo (M.row most (List.range S.acts.length) S n false).1 := by
   have hl : S.acts.length = 1 := by obtain ⟨s, d, e⟩ := h; rw [e]; rfl
   rw [hl, show List.range 1 = [0] from rfl]
   unfold Mac.row
   split
   ·exact h
   split
   ·exact h
   ·unfold Mac.row
    exact h.pick
  unfold Mac.rob
  split
  ·exact ih _ _ hr
  ·exact hr
theorem Solo.robin {S : SW M.σ} (h : Solo S) (most : Int) : Solo (M.robin most S).1 := Solo.rob most _ S 0 h
theorem pick_live {S : SW M.σ} {s : M.σ} (h : S.acts = [⟨some s, false⟩]) (hl : M.live s = true) (he : (M.want s).err S.bs.length = 0) :
  (M.pick S 0 0 0).1.acts = [⟨some (M.step s ((M.want s).ans S.bs)), false⟩] ∧ (M.pick S 0 0 0).1.bs = (M.want s).out S.bs ∧ (M.pick S 0 0 0).1.cnt = S.cnt + 1 := by
 have ha : M.act S 0 0 = ({ S with bs := (M.want s).out S.bs, cnt := S.cnt + 1, acts := [⟨some (M.step s ((M.want s).ans S.bs)), false⟩] }, (M.want s, (M.want s).ans S.bs), 0) := by
  unfold Mac.act
  rw [if_neg (by omega), h]
  simp only [Int.toNat_zero, List.getElem?_cons_zero]
  rw [if_neg (by nofun), if_neg (by omega)]
  unfold Mac.stepA
  dsimp only
  rw [if_neg (by rw [hl]; nofun), if_pos he, h]
  rfl
 unfold Mac.pick
 rw [if_neg (by omega), if_pos (.inl rfl), ha]
 exact ⟨rfl, rfl, rfl⟩
theorem rob_runs (most : Int) {s s' : M.σ} {bs bs' : List Int} {k : Nat} (h : Runs M s bs k s' bs') (hend : M.live s' = false) : ∀ (f : Nat) (S : SW M.σ) (n : Int), k < f → n + k ≤ most → S.acts = [⟨some s, false⟩] → S.bs = bs →
  (M.rob most f S n).2 = n + k ∧ (M.rob most f S n).1.acts = [⟨some s', false⟩] ∧ (M.rob most f S n).1.bs = bs' ∧ (M.rob most f S n).1.cnt = S.cnt + k := by
 induction h with
 | refl s bs =>
  intro f S n hf hn ha hb
  obtain ⟨f, rfl⟩ : ∃ g, f = g + 1 := ⟨f - 1, by omega⟩
  have hr : M.row most (List.range S.acts.length) S n false = (S, n, false, false) := by
   rw [ha, show List.range [(⟨some s, false⟩ : Ac M.σ)].length = [0] from rfl]
   unfold Mac.row
   rw [if_pos (by unfold Mac.goesAt Mac.goes Mac.lives; rw [ha]; simp [hend])]
   rfl
  unfold Mac.rob
  rw [hr, if_neg (by simp)]
  exact ⟨by simp, ha, hb, by simp⟩
 | @step s bs k s' bs' hl he _ ih =>
  intro f S n hf hn ha hb
  obtain ⟨f, rfl⟩ : ∃ g, f = g + 1 := ⟨f - 1, by omega⟩
  subst hb
  obtain ⟨p1, p2, p3⟩ := pick_live (M := M) ha hl he
  have hr : M.row most (List.range S.acts.length) S n false = ((M.pick S 0 0 0).1, n + 1, true, false) := by
   have hl1 : S.acts.length = 1 := by rw [ha]; rfl
   rw [hl1, show List.range 1 = [0] from rfl]
   unfold Mac.row
   rw [if_neg (by unfold Mac.goesAt Mac.goes Mac.lives; rw [ha]; simp [hl]), if_neg (by omega)]
   rfl
  unfold Mac.rob
  rw [hr, if_pos ⟨rfl, rfl⟩]
  obtain ⟨i1, i2, i3, i4⟩ := ih hend f (M.pick S 0 0 0).1 (n + 1) (by omega) (by omega) p1 p2
  refine ⟨by rw [i1]; omega, i2, i3, ?_⟩
  dsimp only at i4 ⊢
  rw [i4, p3]
  omega
theorem robin_runs (most : Int) {s s' : M.σ} {bs bs' : List Int} {k : Nat} (h : Runs M s bs k s' bs') (hend : M.live s' = false) (hk : k ≤ most) (cnt : Int) :
  (M.robin most ⟨bs, cnt, [⟨some s, false⟩], 0, []⟩).2 = k ∧ (M.robin most ⟨bs, cnt, [⟨some s, false⟩], 0, []⟩).1.acts = [⟨some s', false⟩] ∧ (M.robin most ⟨bs, cnt, [⟨some s, false⟩], 0, []⟩).1.bs = bs' ∧ (M.robin most ⟨bs, cnt, [⟨some s, false⟩], 0, []⟩).1.cnt = cnt + k := by
 have := rob_runs most h hend (most.toNat + 2) ⟨bs, cnt, [⟨some s, false⟩], 0, []⟩ 0 (by omega) (by omega) rfl rfl
 unfold Mac.robin
 exact ⟨by rw [this.1]; simp, this.2⟩
noncomputable def kdS (p c : Nat) (F : Nat → Prop) : Nat → Kd := fun i => open Classical in if i = p ∨ i = c then .bu else if F i then .ma 0 else .no
theorem soloNew (C : Fam) {w : World} {p c : Nat} {cnt : Int} {bs : List Int} {F : Nat → Prop} {q g : Nat} {s : C.M.σ} (hB : Buf w p c cnt bs) (hi : C.inv w F q s) (hp : ¬ F p) (hc : ¬ F c) (hg : Blk w g [.iface (C.ty s) (.pointer (some ⟨q, 0, none⟩))]) :
  Calls Tryz.prog 11 #[.pointer (some ⟨p, 0, none⟩), .slice (some ⟨g, 0, none⟩) 1 1] w fun e w' => ∃ W κ av ab, e = .returned (.pointer (some ⟨W, 0, none⟩)) ∧ WoIn C w' κ W p c av nilSl ab ⟨bs, cnt, [⟨some s, false⟩], 0, []⟩ ∧ (∀ i, i < w.heap.size → κ i = kdS p c F i) ∧ w.heap.size ≤ W ∧ Below w.heap.size w w' := by
 have hd := C.dom hi
 have hF : ∀ i, kdS p c F i = .ma 0 ↔ F i := by
  intro i
  unfold kdS
  constructor
  ·intro h
   split at h
   ·cases h
   split at h
   ·assumption
   ·cases h
  ·intro h
   rw [if_neg (by rintro (rfl | rfl); exact hp h; exact hc h), if_pos h]
 refine wNew_any C w (kdS p c F) p c cnt bs 1 (fun _ => .iface (C.ty s) (.pointer (some ⟨q, 0, none⟩))) [some s] g 0 1 (by omega) (Nat.le_refl _) (by unfold maxLen; omega) hB (by unfold kdS; rw [if_pos (.inl rfl)]) (by unfold kdS; rw [if_pos (.inr rfl)]) rfl (by omega) ?_ ?_ ?_ ?_ ?_
 ·intro i hi
  obtain rfl : i = 0 := by omega
  exact hg.cell 0
 ·intro i hi
  rfl
 ·intro i m hm
  match i, hm with
  | 0, hm =>
   cases (show some (some s) = some m from hm)
   exact ⟨q, rfl, C.mono hi (fun j hj => (hF j).2 hj) (fun j hj => hd.2 j ((hF j).1 hj))⟩
  | i + 1, hm => simp at hm
 ·intro k hk
  unfold kdS at hk
  split at hk
  ·rename_i h
   rcases h with rfl | rfl
   ·exact hB.hd.lt
   ·exact Blk.lt hB.wd
  split at hk
  ·exact hd.2 k (by assumption)
  ·exact absurd rfl hk
 ·intro k i
  unfold kdS
  split
  ·exact ⟨nofun, nofun, nofun, nofun, nofun⟩
  split
  ·exact ⟨nofun, nofun, nofun, nofun, nofun⟩
  ·exact ⟨nofun, nofun, nofun, nofun, nofun⟩
structure SoloPost (C : Fam) (w0 w' : World) (p c : Nat) (F : Nat → Prop) (R : SW C.M.σ) : Prop where
 ex : ∃ s' d F' q', R.acts = [⟨some s', d⟩] ∧ C.inv w' F' q' s' ∧ ¬ F' p ∧ ¬ F' c ∧ (∀ i, F' i → F i ∨ w0.heap.size ≤ i)
 buf : Buf w' p c R.cnt R.bs
 keep : Keep (fun i => F i ∨ i = p ∨ i = c) w0 w'
theorem soloRobin (C : Fam) {w0 w : World} {κ : Nat → Kd} {W p c : Nat} {cnt : Int} {bs : List Int} {av : Value} {ab : Nat → Nat} {F : Nat → Prop} {s : C.M.σ} (h : WoIn C w κ W p c av nilSl ab ⟨bs, cnt, [⟨some s, false⟩], 0, []⟩) (hk : ∀ i, i < w0.heap.size → κ i = kdS p c F i) (hb : Below w0.heap.size w0 w) (hp : p < w0.heap.size) (hc : c < w0.heap.size) (most : Int) (hm : most ≤ 900000) (hc0 : 0 ≤ cnt) (hc1 : cnt ≤ 1000000000000) :
  Calls Tryz.prog 12 #[.pointer (some ⟨W, 0, none⟩), .int .i64 most] w fun e w' => e = .returned (.int .i64 (C.M.robin most ⟨bs, cnt, [⟨some s, false⟩], 0, []⟩).2) ∧ SoloPost C w0 w' p c F (C.M.robin most ⟨bs, cnt, [⟨some s, false⟩], 0, []⟩).1 := by
 refine (wRobin_any h most hm hc0 hc1 (by simp) (by simp)).mono ?_
 rintro e w' ⟨rfl, κ', tv', h', hκ, kp⟩
 have zb := hb.size
 have hS : Solo (C.M.robin most ⟨bs, cnt, [⟨some s, false⟩], 0, []⟩).1 := Solo.robin ⟨s, false, rfl⟩ most
 obtain ⟨s', d, hS⟩ := hS
 refine ⟨rfl, ⟨?_, h'.buf, ?_⟩⟩
 ·obtain ⟨_, mv, _, q', _, hi⟩ := h'.act 0 ⟨some s', d⟩ (by rw [hS]; rfl)
  refine ⟨s', d, _, q', hS, hi, ?_, ?_, ?_⟩
  ·rw [h'.kp]; nofun
  ·rw [h'.kc]; nofun
  ·intro i hi2
   by_cases hlt : i < w0.heap.size
   ·left
    rw [hκ i (by omega), hk i hlt] at hi2
    unfold kdS at hi2
    split at hi2
    ·cases hi2
    split at hi2
    ·assumption
    ·cases hi2
   ·right
    omega
 ·refine Keep.then (Below.keeps (M := fun i => F i ∨ i = p ∨ i = c) hb) kp (fun i hi hn => ?_)
  rw [hk i hi] at hn
  unfold kdS at hn
  split at hn
  ·exact .inr (by assumption)
  split at hn
  ·exact .inl (by assumption)
  ·exact absurd rfl hn
theorem mNew_at (size : Int) (k : Nat) (w : World) (hs : size = 8 * (k : Int)) (h1 : 1 ≤ k) (h2 : k ≤ 16384) :
  Calls Tryz.prog 9 #[.int .i64 size] w fun e w' => ∃ p c, e = .returned (.tuple #[.pointer (some ⟨p, 0, none⟩), .int .i64 0]) ∧ Buf w' p c 0 (List.replicate (8 * k) 0) ∧ w.heap.size ≤ p ∧ w.heap.size ≤ c ∧ Below w.heap.size w w' := by
 subst hs
 exact mNew_any k w h1 h2
theorem Runs.lift {M M' : Mac} (f : M.σ → M'.σ) (hl : ∀ s, M'.live (f s) = M.live s) (hw : ∀ s, M'.want (f s) = M.want s) (hs : ∀ s x, M'.step (f s) x = f (M.step s x)) {s s' : M.σ} {bs bs' : List Int} {n : Nat} (h : Runs M s bs n s' bs') : Runs M' (f s) bs n (f s') bs' := by
 induction h with
 | refl => exact .refl _ _
 | step h1 he _ ih =>
  refine .step (by rw [hl]; exact h1) (by rw [hw]; exact he) ?_
  rw [hw, hs]
  exact ih
end Go.Proofs.YtggjhleomocojaaGreat
end
