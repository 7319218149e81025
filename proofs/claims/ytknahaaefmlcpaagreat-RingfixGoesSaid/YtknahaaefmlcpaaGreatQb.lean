/- A nil put; puts as a family of machines. Conditions: as each says. One machine alone in a world: New, Robin. Conditions: as each says. The fixed facts of layer 7's law; the law RingputNil. Conditions: none. -/
import Derived.Test.YtknahaaefmlcpaaGreatPi
import Derived.Test.YtknahaaefmlcpaaGreatSj
section
namespace Go.Proofs.YtknahaaefmlcpaaGreat
set_option maxRecDepth 100000
open Go.RowKit
set_option linter.unusedVariables false
set_option linter.unusedSimpArgs false
set_option maxHeartbeats 1000000 in
theorem pNext_nil (w : World) : Calls Tryz.prog 13 #[.pointer none] w fun e w' => e = .returned (.tuple #[aaZ.V (.slice none 0 0), .bool false]) ∧ Below w.heap.size w w' := by
  go_enter Tryz.func13, Tryz.ntmps13
  go_wp2
  refine bodyPost_ret (v := .tuple #[aaZ.V (.slice none 0 0), .bool false]) (res_aa (c := aaZ) rfl rfl rfl (Blk.made _ _ _)) rfl ⟨rfl, by go_grown⟩
set_option maxHeartbeats 1000000 in
theorem pTake_nil (v : Int) (d : Bool) (s0 : Option Addr) (sl sc : Nat) (w : World) : Calls Tryz.prog 16 #[.pointer none, .agg #[.int .u64 v, .bool d, .slice s0 sl sc]] w fun e w' => e = .returned (.tuple #[]) ∧ Below w.heap.size w w' := by
  go_enter Tryz.func16, Tryz.ntmps16
  go_wp2
  go_end0
  exact ⟨rfl, by go_grown⟩
theorem pResult_nil (w : World) : Calls Tryz.prog 23 #[.pointer none] w fun e w' => e = .returned (.tuple #[.int .i64 0, .int .i64 1]) ∧ w = w' := by
  go_enter Tryz.func23, Tryz.ntmps23
  go_wp2
  go_ret2
  exact ⟨rfl, rfl⟩
set_option maxHeartbeats 2000000 in
/-- Take, where nothing is wanted. -/
theorem pTake_end {O : Nat → Prop} {q : Nat} {m : PutM} {bv : Value} (x : AN) (s0 : Option Addr) (sl sc : Nat) (w : World) (h : PutI w O q m bv) (hl : m.live = false) :
    Calls Tryz.prog 16 #[.pointer (some ⟨q, 0, none⟩), .agg #[.int .u64 x.v, .bool x.d, .slice s0 sl sc]] w fun e w' => e = .returned (.tuple #[]) ∧ Below w.heap.size w w' := by
  have hm : ∃ c, Mch w q c .nilFunc (m.rest bv) := by
    have ha := h.at_
    obtain ⟨c, pc, hd, pos, cl, e⟩ := m
    cases pc with
    | done => obtain ⟨t, hm, rfl⟩ := ha; exact ⟨_, hm⟩
    | _ => cases hl
  obtain ⟨c, hm⟩ := hm
  have hlt : q < w.heap.size := Blk.lt hm
  have HM := Lib.hid hm
  clear h hm
  go_enter Tryz.func16, Tryz.ntmps16
  go_wp2_with fail
  go_region_held3 (fun w' => w'.cell? ⟨w.heap.size, 0, none⟩ = some (.int .u64 x.v) ∧ w'.cell? ⟨w.heap.size, 1, none⟩ = some (.bool x.d) ∧ w'.cell? ⟨w.heap.size, 2, none⟩ = some (.slice s0 sl sc)) (first | go_keep | trivial)
    (first
      | (go_at_call 71; refine (cTake_end q c _ x.v x.d s0 sl sc _ (Blk.below HM.out (by go_grown) hlt)).mono ?_; rintro e w2 ⟨rfl, b2⟩; have hc := fun o => b2.cell (p := ⟨w.heap.size, o, none⟩) (by simp)))
  all_goals
    clear hc
    go_wp2
    go_end0
    refine ⟨rfl, ?_⟩
    exact (bel_drewN 1 ((Below.refl w.heap.size w).alloc (Nat.le_refl _) _)).trans (b2.mono (by simp))
/-- A put with its block. -/
def putMac : Mac := ⟨PutM, PutM.live, PutM.want, PutM.step⟩
def putMacQ : Mac := ⟨Nat × PutM, fun s => s.2.live, fun s => s.2.want, fun s x => (s.1, s.2.step x)⟩
theorem pM_next (b : Nat) (w : World) : (method (Tryz.prog.types.size + Made.depth) 38 (.pointer (some ⟨b, 0, none⟩)) "Next").run Tryz.prog w = .ok (13, .pointer (some ⟨b, 0, none⟩)) w := by kernel_rfl
theorem pM_take (b : Nat) (w : World) : (method (Tryz.prog.types.size + Made.depth) 38 (.pointer (some ⟨b, 0, none⟩)) "Take").run Tryz.prog w = .ok (16, .pointer (some ⟨b, 0, none⟩)) w := by kernel_rfl
theorem enPN (args : Array Value) (w : World) : (callFunc 13 args).run Tryz.prog w = .ok (.enter 13 args) w :=
  enters_of Tryz.func13 (by kernel_rfl) rfl args w
theorem enPT (args : Array Value) (w : World) : (callFunc 16 args).run Tryz.prog w = .ok (.enter 16 args) w :=
  enters_of Tryz.func16 (by kernel_rfl) rfl args w
/-- A put among the blocks F. -/
def PutF (w : World) (F : Nat → Prop) (q : Nat) (m : PutM) : Prop := F q ∧ (∀ i, F i → i < w.heap.size) ∧ ∃ O bv, (∀ i, O i → F i ∧ i ≠ q) ∧ PutI w O q m bv
theorem PutF.mono {w : World} {F F' : Nat → Prop} {q : Nat} {m : PutM} (h : PutF w F q m) (h1 : ∀ i, F i → F' i) (h2 : ∀ i, F' i → i < w.heap.size) : PutF w F' q m := by
  obtain ⟨a1, a2, O, bv, hO, hI⟩ := h
  exact ⟨h1 q a1, h2, O, bv, fun i hi => ⟨h1 i (hO i hi).1, (hO i hi).2⟩, hI⟩
theorem PutF.keep {w w' : World} {F K : Nat → Prop} {q : Nat} {m : PutM} (h : PutF w F q m) (k : Keep K w w') (hd : ∀ i, F i → ¬ K i) : PutF w' F q m := by
  obtain ⟨a1, a2, O, bv, hO, hI⟩ := h
  exact ⟨a1, fun i hi => Nat.lt_of_lt_of_le (a2 i hi) k.size, O, bv, hO, hI.keep k (fun i hi => hd i (hO i hi).1) (hd q a1)⟩
theorem PutF.below {w w' : World} {F : Nat → Prop} {q : Nat} {m : PutM} (h : PutF w F q m) (b : Below w.heap.size w w') : PutF w' F q m := h.keep (K := fun _ => False) (Below.keeps b) (fun _ _ => id)
theorem pNew_f (b s typ : Int) (s0 : Option Addr) (sl sc : Nat) (l : List Int) (w : World) (hr : RdB w (.slice s0 sl sc) l) (hl : l.length ≤ 70368744177664) (hB : IsB l) (hb0 : -9223372036854775808 ≤ b) (hb1 : b ≤ 9223372036854775807) (hs0 : -9223372036854775808 ≤ s) (hs1 : s ≤ 9223372036854775807) :
    Calls Tryz.prog 12 #[.agg #[.int .i64 b, .int .i64 s], .int .i32 typ, .slice s0 sl sc] w fun e w' => ∃ q, e = .returned (.pointer (some ⟨q, 0, none⟩)) ∧ w.heap.size ≤ q ∧ PutF w' (fun k => w.heap.size ≤ k ∧ k < w'.heap.size) q (PutC.init ⟨b, s, typ, l⟩) ∧ Below w.heap.size w w' := by
  refine (pNew_any b s typ s0 sl sc l w hr hl hB hb0 hb1 hs0 hs1).mono ?_
  rintro e w' ⟨q, bv, rfl, h1, h2, h3, h4⟩
  exact ⟨q, rfl, h1, ⟨⟨h1, h2⟩, fun i hi => hi.2, _, bv, fun i hi => ⟨⟨hi.1, hi.2.1⟩, hi.2.2⟩, h3⟩, h4⟩
theorem pTake_f {F : Nat → Prop} {q : Nat} {m : PutM} (x : AN) (s0 : Option Addr) (sl sc : Nat) (w : World) (h : PutF w F q m) (hx : inU x.v) :
    Calls Tryz.prog 16 #[.pointer (some ⟨q, 0, none⟩), .agg #[.int .u64 x.v, .bool x.d, .slice s0 sl sc]] w fun e w' => e = .returned (.tuple #[]) ∧ ∃ F', PutF w' F' q (m.step x) ∧ (∀ i, F' i → F i ∨ w.heap.size ≤ i) ∧ Keep F w w' := by
  by_cases hl : m.live = true
  · obtain ⟨a1, a2, O, bv, hO, hI⟩ := h
    refine (pTake_any x s0 sl sc w hI hl hx).mono ?_
    rintro e w' ⟨rfl, hI', k⟩
    have z := k.size
    have hq := a2 q a1
    refine ⟨rfl, fun i => F i ∨ (w.heap.size ≤ i ∧ i < w'.heap.size), ⟨.inl a1, fun i hi => ?_, _, bv, fun i hi => ?_, hI'⟩, fun i hi => hi.imp id (fun h => h.1), k.mono (fun i _ e => e ▸ a1)⟩
    · rcases hi with hi | hi
      · have := a2 i hi
        omega
      · exact hi.2
    · rcases hi with hi | hi
      · exact ⟨.inl (hO i hi).1, (hO i hi).2⟩
      · exact ⟨.inr hi, by omega⟩
  · have hl' : m.live = false := by simpa using hl
    have hs : m.step x = m := by
      obtain ⟨c, pc, hd, pos, cl, e⟩ := m
      cases pc with
      | done => rfl
      | _ => cases hl'
    rw [hs]
    have h0 := h
    obtain ⟨a1, a2, O, bv, hO, hI⟩ := h
    refine (pTake_end x s0 sl sc w hI hl').mono ?_
    rintro e w' ⟨rfl, b⟩
    exact ⟨rfl, F, h0.below b, fun i hi => .inl hi, Below.keeps b⟩
def putFam : Fam where
  M := putMacQ
  inv := fun w F q s => q = s.1 ∧ PutF w F q s.2
  ty := fun _ => 38
  fn := fun _ => 13
  ft := fun _ => 16
  mn := fun _ b w => pM_next b w
  mt := fun _ b w => pM_take b w
  en := fun _ args w => enPN args w
  et := fun _ args w => enPT args w
  ts := fun _ _ => rfl
  dom := fun h => ⟨h.2.1, h.2.2.1⟩
  mono := fun h h1 h2 => ⟨h.1, h.2.mono h1 h2⟩
  keep := fun h k hd => ⟨h.1, h.2.keep k hd⟩
  wf := fun {w F q s} h => by
    obtain ⟨_, _, _, O, bv, hO, hI⟩ := h
    exact hI.fine.wf
  next := fun {w F q s} h => by
    obtain ⟨_, _, _, O, bv, hO, hI⟩ := h
    exact pNext_any w hI
  take := fun {w F q s x s0 sl sc} h hl hx hr => by
    refine (pTake_f x s0 sl sc w h.2 ⟨hx.v0, hx.v1⟩).mono ?_
    rintro e w' ⟨rfl, F', h1, h2, h3⟩
    exact ⟨rfl, F', ⟨h.1, h1⟩, h2, h3⟩
theorem missing_oneP (nm : String) (T : TypeId) (got : Array Method) (h : (got.any fun m => m.name == nm && m.sig == T) = false) : ∃ m, Instr.missingMethod #[(nm, T)] got = some m := by
  unfold Instr.missingMethod
  simp only [List.filter_cons, List.filter_nil, h, Bool.not_false, if_true, List.map_cons, List.map_nil]
  by_cases hc : nm.contains '.' = true
  · simp [List.partition, List.partition.loop, hc, Instr.least]
  · simp [List.partition, List.partition.loop, hc, Instr.least]
theorem putNoTick (b : Nat) (w : World) : ((Instr.typeAssert (.iface 38 (.pointer (some ⟨b, 0, none⟩))) 154 220 true).run Tryz.prog w) = .ok (.tuple #[.nilIface, .bool false]) w := by
  obtain ⟨m, hm⟩ := missing_oneP "Tick" 222 Tryz.t38.methods (by decide +kernel)
  have hz : ∀ w, (zeroValue 220).run Tryz.prog w = .ok .nilIface w := fun w => by kernel_rfl
  unfold Instr.typeAssert
  go_simp
theorem putUntimed : Untimed putFam := fun s b w => putNoTick b w
end Go.Proofs.YtknahaaefmlcpaaGreat
end
section
namespace Go.Proofs.YtknahaaefmlcpaaGreat
set_option maxRecDepth 100000
open Go.RowKit
set_option linter.unusedVariables false
set_option linter.unusedSimpArgs false
/-- A machine goes on over bytes, so many steps. -/
inductive Runs (M : Mac) : M.σ → List Int → Nat → M.σ → List Int → Prop
  | refl (s : M.σ) (bs : List Int) : Runs M s bs 0 s bs
  | step {s : M.σ} {bs : List Int} {n : Nat} {s' : M.σ} {bs' : List Int} (hl : M.live s = true) (he : (M.want s).err bs.length = 0) (h : Runs M (M.step s ((M.want s).ans bs)) ((M.want s).out bs) n s' bs') : Runs M s bs (n + 1) s' bs'
theorem Runs.trans {M : Mac} {s s' s'' : M.σ} {bs bs' bs'' : List Int} {n m : Nat} (h : Runs M s bs n s' bs') (k : Runs M s' bs' m s'' bs'') : Runs M s bs (n + m) s'' bs'' := by
  induction h with
  | refl => rw [Nat.zero_add]; exact k
  | step hl he _ ih => rw [Nat.add_right_comm]; exact .step hl he (ih k)
theorem Runs.one {M : Mac} {s : M.σ} {bs : List Int} (hl : M.live s = true) (he : (M.want s).err bs.length = 0) : Runs M s bs 1 (M.step s ((M.want s).ans bs)) ((M.want s).out bs) := .step hl he (.refl _ _)
/-- One actor's world. -/
def Solo {σ : Type} (S : SW σ) : Prop := ∃ s d, S.acts = [⟨some s, d⟩]
theorem Solo.pick {M : Mac} {S : SW M.σ} (h : Solo S) : Solo (M.pick S 0 0 0).1 := by
  obtain ⟨s, d, h⟩ := h
  have ha : Solo (M.act S 0 0).1 := by
    unfold Mac.act
    rw [if_neg (by omega), h]
    simp only [Int.toNat_zero, List.getElem?_cons_zero]
    split
    · exact ⟨s, d, h⟩
    rw [if_neg (by omega)]
    unfold Mac.stepA
    dsimp only
    split
    · exact ⟨s, d, h⟩
    split
    · rw [h]
      exact ⟨_, _, rfl⟩
    · rw [h]
      exact ⟨_, _, rfl⟩
  obtain ⟨s', d', h'⟩ := ha
  unfold Mac.pick
  rw [if_neg (by omega), if_pos (.inl rfl)]
  split
  · exact ⟨s', d', h'⟩
  · exact ⟨s', d', h'⟩
theorem Solo.rob {M : Mac} (most : Int) : ∀ (f : Nat) (S : SW M.σ) (n : Int), Solo S → Solo (M.rob most f S n).1 := by
  intro f
  induction f with
  | zero => intro S n h; exact h
  | succ f ih =>
    intro S n h
    have hr : Solo (M.row most (List.range S.acts.length) S n false).1 := by
      have hl : S.acts.length = 1 := by obtain ⟨s, d, e⟩ := h; rw [e]; rfl
      rw [hl, show List.range 1 = [0] from rfl]
      unfold Mac.row
      split
      · exact h
      split
      · exact h
      · unfold Mac.row
        exact h.pick
    unfold Mac.rob
    split
    · exact ih _ _ hr
    · exact hr
theorem Solo.robin {M : Mac} {S : SW M.σ} (h : Solo S) (most : Int) : Solo (M.robin most S).1 := Solo.rob most _ S 0 h
theorem pick_live {M : Mac} {S : SW M.σ} {s : M.σ} (h : S.acts = [⟨some s, false⟩]) (hl : M.live s = true) (he : (M.want s).err S.bs.length = 0) :
    (M.pick S 0 0 0).1.acts = [⟨some (M.step s ((M.want s).ans S.bs)), false⟩] ∧ (M.pick S 0 0 0).1.bs = (M.want s).out S.bs ∧ (M.pick S 0 0 0).1.cnt = S.cnt + 1 := by
  have ha : M.act S 0 0 = ({ S with bs := (M.want s).out S.bs, cnt := S.cnt + 1, acts := [⟨some (M.step s ((M.want s).ans S.bs)), false⟩] }, (M.want s, (M.want s).ans S.bs), 0) := by
    unfold Mac.act
    rw [if_neg (by omega), h]
    simp only [Int.toNat_zero, List.getElem?_cons_zero]
    rw [if_neg (by nofun), if_neg (by omega)]
    unfold Mac.stepA
    dsimp only
    rw [if_neg (by rw [hl]; nofun), if_pos he, h]
    rfl
  unfold Mac.pick
  rw [if_neg (by omega), if_pos (.inl rfl), ha]
  exact ⟨rfl, rfl, rfl⟩
theorem rob_runs {M : Mac} (most : Int) {s s' : M.σ} {bs bs' : List Int} {k : Nat} (h : Runs M s bs k s' bs') (hend : M.live s' = false) : ∀ (f : Nat) (S : SW M.σ) (n : Int), k < f → n + k ≤ most → S.acts = [⟨some s, false⟩] → S.bs = bs →
    (M.rob most f S n).2 = n + k ∧ (M.rob most f S n).1.acts = [⟨some s', false⟩] ∧ (M.rob most f S n).1.bs = bs' ∧ (M.rob most f S n).1.cnt = S.cnt + k := by
  induction h with
  | refl s bs =>
    intro f S n hf hn ha hb
    obtain ⟨f, rfl⟩ : ∃ g, f = g + 1 := ⟨f - 1, by omega⟩
    have hr : M.row most (List.range S.acts.length) S n false = (S, n, false, false) := by
      rw [ha, show List.range [(⟨some s, false⟩ : Ac M.σ)].length = [0] from rfl]
      unfold Mac.row
      rw [if_pos (by unfold Mac.goesAt Mac.goes Mac.lives; rw [ha]; simp [hend])]
      rfl
    unfold Mac.rob
    rw [hr, if_neg (by simp)]
    exact ⟨by simp, ha, hb, by simp⟩
  | @step s bs k s' bs' hl he _ ih =>
    intro f S n hf hn ha hb
    obtain ⟨f, rfl⟩ : ∃ g, f = g + 1 := ⟨f - 1, by omega⟩
    subst hb
    obtain ⟨p1, p2, p3⟩ := pick_live (M := M) ha hl he
    have hr : M.row most (List.range S.acts.length) S n false = ((M.pick S 0 0 0).1, n + 1, true, false) := by
      have hl1 : S.acts.length = 1 := by rw [ha]; rfl
      rw [hl1, show List.range 1 = [0] from rfl]
      unfold Mac.row
      rw [if_neg (by unfold Mac.goesAt Mac.goes Mac.lives; rw [ha]; simp [hl]), if_neg (by omega)]
      rfl
    unfold Mac.rob
    rw [hr, if_pos ⟨rfl, rfl⟩]
    obtain ⟨i1, i2, i3, i4⟩ := ih hend f (M.pick S 0 0 0).1 (n + 1) (by omega) (by omega) p1 p2
    refine ⟨by rw [i1]; omega, i2, i3, ?_⟩
    dsimp only at i4 ⊢
    rw [i4, p3]
    omega
theorem robin_runs {M : Mac} (most : Int) {s s' : M.σ} {bs bs' : List Int} {k : Nat} (h : Runs M s bs k s' bs') (hend : M.live s' = false) (hk : k ≤ most) (cnt : Int) :
    (M.robin most ⟨bs, cnt, [⟨some s, false⟩], 0, []⟩).2 = k ∧ (M.robin most ⟨bs, cnt, [⟨some s, false⟩], 0, []⟩).1.acts = [⟨some s', false⟩] ∧ (M.robin most ⟨bs, cnt, [⟨some s, false⟩], 0, []⟩).1.bs = bs' ∧ (M.robin most ⟨bs, cnt, [⟨some s, false⟩], 0, []⟩).1.cnt = cnt + k := by
  have := rob_runs most h hend (most.toNat + 2) ⟨bs, cnt, [⟨some s, false⟩], 0, []⟩ 0 (by omega) (by omega) rfl rfl
  unfold Mac.robin
  exact ⟨by rw [this.1]; simp, this.2⟩
/-- What blocks are for, where one machine's world is about to be made. -/
noncomputable def kdS (p c : Nat) (F : Nat → Prop) : Nat → Kd := fun i => open Classical in if i = p ∨ i = c then .bu else if F i then .ma 0 else .no
theorem soloNew (C : Fam) {w : World} {p c : Nat} {cnt : Int} {bs : List Int} {F : Nat → Prop} {q g : Nat} {s : C.M.σ} (hB : Buf w p c cnt bs) (hi : C.inv w F q s) (hp : ¬ F p) (hc : ¬ F c) (hg : Blk w g [.iface (C.ty s) (.pointer (some ⟨q, 0, none⟩))]) :
    Calls Tryz.prog 20 #[.pointer (some ⟨p, 0, none⟩), .slice (some ⟨g, 0, none⟩) 1 1] w fun e w' => ∃ W κ av ab, e = .returned (.pointer (some ⟨W, 0, none⟩)) ∧ WoIn C w' κ W p c av nilSl ab ⟨bs, cnt, [⟨some s, false⟩], 0, []⟩ ∧ (∀ i, i < w.heap.size → κ i = kdS p c F i) ∧ w.heap.size ≤ W ∧ Below w.heap.size w w' := by
  have hd := C.dom hi
  have hF : ∀ i, kdS p c F i = .ma 0 ↔ F i := by
    intro i
    unfold kdS
    constructor
    · intro h
      split at h
      · cases h
      split at h
      · assumption
      · cases h
    · intro h
      rw [if_neg (by rintro (rfl | rfl); exact hp h; exact hc h), if_pos h]
  refine wNew_any C w (kdS p c F) p c cnt bs 1 (fun _ => .iface (C.ty s) (.pointer (some ⟨q, 0, none⟩))) [some s] g 0 1 (by omega) (Nat.le_refl _) (by unfold maxLen; omega) hB (by unfold kdS; rw [if_pos (.inl rfl)]) (by unfold kdS; rw [if_pos (.inr rfl)]) rfl (by omega) ?_ ?_ ?_ ?_ ?_
  · intro i hi
    obtain rfl : i = 0 := by omega
    exact hg.cell 0
  · intro i hi
    rfl
  · intro i m hm
    match i, hm with
    | 0, hm =>
      cases (show some (some s) = some m from hm)
      exact ⟨q, rfl, C.mono hi (fun j hj => (hF j).2 hj) (fun j hj => hd.2 j ((hF j).1 hj))⟩
    | i + 1, hm => simp at hm
  · intro k hk
    unfold kdS at hk
    split at hk
    · rename_i h
      rcases h with rfl | rfl
      · exact hB.hd.lt
      · exact Blk.lt hB.wd
    split at hk
    · exact hd.2 k (by assumption)
    · exact absurd rfl hk
  · intro k i
    unfold kdS
    split
    · exact ⟨nofun, nofun, nofun, nofun, nofun⟩
    split
    · exact ⟨nofun, nofun, nofun, nofun, nofun⟩
    · exact ⟨nofun, nofun, nofun, nofun, nofun⟩
/-- What is left where one machine's world went on. -/
structure SoloPost (C : Fam) (w0 w' : World) (p c : Nat) (F : Nat → Prop) (R : SW C.M.σ) : Prop where
  ex : ∃ s' d F' q', R.acts = [⟨some s', d⟩] ∧ C.inv w' F' q' s' ∧ ¬ F' p ∧ ¬ F' c ∧ (∀ i, F' i → F i ∨ w0.heap.size ≤ i)
  buf : Buf w' p c R.cnt R.bs
  keep : Keep (fun i => F i ∨ i = p ∨ i = c) w0 w'
theorem soloRobin (C : Fam) {w0 w : World} {κ : Nat → Kd} {W p c : Nat} {cnt : Int} {bs : List Int} {av : Value} {ab : Nat → Nat} {F : Nat → Prop} {s : C.M.σ} (h : WoIn C w κ W p c av nilSl ab ⟨bs, cnt, [⟨some s, false⟩], 0, []⟩) (hk : ∀ i, i < w0.heap.size → κ i = kdS p c F i) (hb : Below w0.heap.size w0 w) (hp : p < w0.heap.size) (hc : c < w0.heap.size) (most : Int) (hm : most ≤ 900000) (hc0 : 0 ≤ cnt) (hc1 : cnt ≤ 1000000000000) :
    Calls Tryz.prog 22 #[.pointer (some ⟨W, 0, none⟩), .int .i64 most] w fun e w' => e = .returned (.int .i64 (C.M.robin most ⟨bs, cnt, [⟨some s, false⟩], 0, []⟩).2) ∧ SoloPost C w0 w' p c F (C.M.robin most ⟨bs, cnt, [⟨some s, false⟩], 0, []⟩).1 := by
  refine (wRobin_any h most hm hc0 hc1 (by simp) (by simp)).mono ?_
  rintro e w' ⟨rfl, κ', tv', h', hκ, kp⟩
  have zb := hb.size
  have hS : Solo (C.M.robin most ⟨bs, cnt, [⟨some s, false⟩], 0, []⟩).1 := Solo.robin ⟨s, false, rfl⟩ most
  obtain ⟨s', d, hS⟩ := hS
  refine ⟨rfl, ⟨?_, h'.buf, ?_⟩⟩
  · obtain ⟨_, mv, _, q', _, hi⟩ := h'.act 0 ⟨some s', d⟩ (by rw [hS]; rfl)
    refine ⟨s', d, _, q', hS, hi, ?_, ?_, ?_⟩
    · rw [h'.kp]; nofun
    · rw [h'.kc]; nofun
    · intro i hi2
      by_cases hlt : i < w0.heap.size
      · left
        rw [hκ i (by omega), hk i hlt] at hi2
        unfold kdS at hi2
        split at hi2
        · cases hi2
        split at hi2
        · assumption
        · cases hi2
      · right
        omega
  · refine Keep.then (Below.keeps (M := fun i => F i ∨ i = p ∨ i = c) hb) kp (fun i hi hn => ?_)
    rw [hk i hi] at hn
    unfold kdS at hn
    split at hn
    · exact .inr (by assumption)
    split at hn
    · exact .inl (by assumption)
    · exact absurd rfl hn
end Go.Proofs.YtknahaaefmlcpaaGreat
end
section
namespace Go.Proofs.YtknahaaefmlcpaaGreat
set_option maxRecDepth 100000
open Go.RowKit
set_option linter.unusedVariables false
set_option linter.unusedSimpArgs false
theorem mNew_at (size : Int) (k : Nat) (w : World) (hs : size = 8 * (k : Int)) (h1 : 1 ≤ k) (h2 : k ≤ 16384) :
    Calls Tryz.prog 10 #[.int .i64 size] w fun e w' => ∃ p c, e = .returned (.tuple #[.pointer (some ⟨p, 0, none⟩), .int .i64 0]) ∧ Buf w' p c 0 (List.replicate (8 * k) 0) ∧ w.heap.size ≤ p ∧ w.heap.size ≤ c ∧ Below w.heap.size w w' := by
  subst hs
  exact mNew_any k w h1 h2
/-- So many steps, reckoned. -/
def Mac.runN (M : Mac) : Nat → M.σ → List Int → M.σ × List Int × Bool
  | 0, s, bs => (s, bs, true)
  | n + 1, s, bs => if M.live s = true ∧ (M.want s).err bs.length = 0 then Mac.runN M n (M.step s ((M.want s).ans bs)) ((M.want s).out bs) else (s, bs, false)
theorem runN_runs {M : Mac} : ∀ (n : Nat) (s : M.σ) (bs : List Int), (M.runN n s bs).2.2 = true → Runs M s bs n (M.runN n s bs).1 (M.runN n s bs).2.1 := by
  intro n
  induction n with
  | zero => intro s bs _; exact .refl _ _
  | succ n ih =>
    intro s bs h
    unfold Mac.runN at h ⊢
    split at h
    · rename_i h1
      rw [if_pos h1]
      exact .step h1.1 h1.2 (ih _ _ h)
    · cases h
theorem Runs.lift {M M' : Mac} (f : M.σ → M'.σ) (hl : ∀ s, M'.live (f s) = M.live s) (hw : ∀ s, M'.want (f s) = M.want s) (hs : ∀ s x, M'.step (f s) x = f (M.step s x)) {s s' : M.σ} {bs bs' : List Int} {n : Nat} (h : Runs M s bs n s' bs') : Runs M' (f s) bs n (f s') bs' := by
  induction h with
  | refl => exact .refl _ _
  | step h1 he _ ih =>
    refine .step (by rw [hl]; exact h1) (by rw [hw]; exact he) ?_
    rw [hw, hs]
    exact ih
theorem Runs.q {s s' : PutM} {bs bs' : List Int} {n : Nat} (q : Nat) (h : Runs putMac s bs n s' bs') : Runs putMacQ (q, s) bs n (q, s') bs' :=
  Runs.lift (M := putMac) (M' := putMacQ) (fun s => (q, s)) (fun _ => rfl) (fun _ => rfl) (fun _ _ => rfl) h
/-- What a put is, where its world went on to its end. -/
theorem SoloPost.put {w0 w' : World} {p c : Nat} {F : Nat → Prop} {R : SW (Nat × PutM)} {q : Nat} {m' : PutM} (h : SoloPost putFam w0 w' p c F R) (ha : R.acts = [⟨some (q, m'), false⟩]) :
    ∃ F', PutF w' F' q m' ∧ ¬ F' p ∧ ¬ F' c ∧ ∀ i, F' i → F i ∨ w0.heap.size ≤ i := by
  obtain ⟨s', d, F', q', e, hi, h1, h2, h3⟩ := h.ex
  rw [ha] at e
  injection e with e _
  injection e with e _
  injection e with e
  subst e
  obtain ⟨rfl, hi⟩ := hi
  exact ⟨F', hi, h1, h2, h3⟩
theorem rd_rep {w : World} {g n : Nat} (h : Blk w g ((List.replicate n (0 : Int)).map (Value.int .u8))) (hn : n ≤ maxLen) : RdB w (.slice (some ⟨g, 0, none⟩) n n) (List.replicate n 0) := by
  refine .inr <| .inr ⟨g, 0, n, by simp, by simp, hn, fun i hi => ?_⟩
  simp at hi
  have e := Blk.cell h (0 + i)
  rw [e]
  simp [gB, hi]
def f7c : PutC := ⟨0, 64, 1, List.replicate 8 0⟩
def f7R : PutM × List Int × Bool := putMac.runN 6 f7c.init (List.replicate 96 0)
theorem f7_facts : f7R.2.2 = true ∧ f7R.1.live = false ∧ f7R.1.e = 0 ∧ f7R.1.rv = 0 ∧ doV f7R.2.1 1 64 8 = 16 ∧ f7R.2.1.length = 96 ∧ f7c.init.e = 10 := by decide +kernel
set_option maxHeartbeats 2000000 in
theorem fixed07_any (w : World) : Calls Tryz.prog 9 #[] w fun e w' => e = .returned (.bool true) ∧ Below w.heap.size w w' := by
  obtain ⟨i0, hi, hz0, hz1, hz2⟩ := info_parts u8info
  have FX := Lib.hid f7_facts
  go_enter Tryz.func9, Tryz.ntmps9
  go_wp2_with fail
  refine (mNew_at 96 12 _ (by decide) (by decide) (by decide)).mono ?_
  rintro e w1 ⟨p, c, rfl, hb1, hp, hc, b1⟩
  have HB1 := Lib.hid hb1
  have B1 := Lib.hid b1
  have z1 := b1.size
  clear hb1 b1
  go_wp2_with (refine wpList_make_full _ rfl _ _ 22 rfl w1.heap.size 5 i0 (.int .u8 0) 1 Tryz.underlying22 hi hz0 hz1 _ _ _ _ 8 rfl rfl rfl rfl (by rw [hz2]; omega) (by unfold maxLen; omega) (Nat.le_refl _) ?_)
  intro w2 own2 hg2
  obtain ⟨hblk, _⟩ := own_blkK own2
  have b2 : Below w1.heap.size w1 w2 := (Below.refl _ _).grown hg2 (Nat.le_refl _) (fun k hk => by cases hk)
  rw [← rep_cells 8] at hblk
  have hr2 : RdB w2 (.slice (some ⟨w1.heap.size, 0, none⟩) 8 8) (List.replicate 8 0) := by
    exact rd_rep hblk (by unfold maxLen; omega)
  have z2 := b2.size
  have B2 := Lib.hid (B1.out.trans (b2.mono z1))
  have HB2 := Lib.hid (HB1.out.belows b2)
  have HR2 := Lib.hid hr2
  have lp := HB2.out.hd.lt
  have lc := Blk.lt HB2.out.wd
  clear own2 hg2 hblk hr2 b2 HB1 B1
  go_wp2_with fail
  refine (pNew_f 0 64 1 _ 8 8 (List.replicate 8 0) _ HR2.out (by simp) (by intro x hx; simp at hx; omega) (by decide) (by decide) (by decide) (by decide)).mono ?_
  rintro e w3 ⟨q, rfl, hq, hF, b3⟩
  have z3 := b3.size
  have B3 := Lib.hid (B2.out.trans (b3.mono (by omega)))
  have HB3 := Lib.hid (HB2.out.belows b3)
  have HF3 := Lib.hid (show PutF w3 (fun k => w2.heap.size ≤ k ∧ k < w3.heap.size) q f7c.init from hF)
  clear hF b3 HB2 B2 HR2
  go_wp2_with fail
  obtain ⟨_, _, O3, bv3, _, hI3⟩ := HF3.out
  refine (pResult_any w3 hI3.at_).mono ?_
  rintro e w4 ⟨rfl, b4⟩
  have e10 : f7c.init.e = 10 := FX.out.2.2.2.2.2.2
  rw [e10]
  have z4 := b4.size
  have B4 := Lib.hid (B3.out.trans (b4.mono (by omega)))
  have HB4 := Lib.hid (HB3.out.belows b4)
  have HF4 := Lib.hid (HF3.out.below b4)
  clear hI3 b4 HB3 HF3 B3 e10
  go_wp2_with fail
  obtain ⟨w5, hw5⟩ : ∃ w5, w5 = w4.alloc (Obj.cells #[.iface 38 (.pointer (some ⟨q, 0, none⟩))] 154) := ⟨_, rfl⟩
  have b5 : Below w4.heap.size w4 w5 := by rw [hw5]; exact (Below.refl _ _).alloc (Nat.le_refl _) _
  have hg5 : Blk w5 w4.heap.size [.iface 38 (.pointer (some ⟨q, 0, none⟩))] := by rw [hw5]; exact Blk.made w4 _ _
  have z5 : w4.heap.size < w5.heap.size := by rw [hw5]; simp
  have HB5 := Lib.hid (HB4.out.belows b5)
  have HF5 := Lib.hid (HF4.out.below b5)
  have B5 := Lib.hid (B4.out.trans (b5.mono (by omega)))
  have HG5 := Lib.hid hg5
  rw [← hw5]
  clear hw5 b5 hg5 HB4 HF4 B4
  refine (soloNew putFam (F := fun k => w2.heap.size ≤ k ∧ k < w3.heap.size) (s := (q, f7c.init)) HB5.out ⟨rfl, HF5.out⟩ (by omega) (by omega) HG5.out).mono ?_
  rintro e w6 ⟨W, κ, av, ab, rfl, hW, hκ, hWs, b6⟩
  have HW := Lib.hid hW
  have HK := Lib.hid hκ
  have B6 := Lib.hid b6
  have z6 := b6.size
  clear hW hκ b6
  go_wp2_with fail
  refine (soloRobin putFam (w0 := w5) HW.out HK.out B6.out (by omega) (by omega) 99 (by decide) (by decide) (by decide)).mono ?_
  rintro e w7 ⟨rfl, hS⟩
  have hR := robin_runs (M := putMacQ) 99 (Runs.q q (runN_runs (M := putMac) 6 f7c.init (List.replicate 96 0) FX.out.1)) FX.out.2.1 (by decide) 0
  have e6 : (putFam.M.robin 99 ⟨List.replicate (8 * 12) 0, 0, [⟨some (q, f7c.init), false⟩], 0, []⟩).2 = 6 := hR.1
  have HS := Lib.hid hS
  have HR := Lib.hid hR
  rw [e6]
  obtain ⟨F', hF', hp', hc', hs'⟩ := hS.put hR.2.1
  have HF7 := Lib.hid hF'
  have hbuf := hS.buf
  have hb7 : Buf w7 p c 6 f7R.2.1 := by
    have e1 : (putFam.M.robin 99 ⟨List.replicate (8 * 12) 0, 0, [⟨some (q, f7c.init), false⟩], 0, []⟩).1.bs = f7R.2.1 := hR.2.2.1
    have e2 : (putFam.M.robin 99 ⟨List.replicate (8 * 12) 0, 0, [⟨some (q, f7c.init), false⟩], 0, []⟩).1.cnt = 6 := hR.2.2.2
    rw [e1, e2] at hbuf
    exact hbuf
  have B7 := Lib.hid (B5.out.trans (hS.keep.below (by omega) (fun k h1 h2 => by omega)))
  have HB7 := Lib.hid hb7
  have z7 := hS.keep.size
  clear hS hR hF' hbuf hb7 e6 HS HR HW HK B6 B5 HF5 HB5 HG5 hp' hc' hs'
  go_wp2_with fail
  obtain ⟨_, _, O7, bv7, _, hI7⟩ := HF7.out
  refine (pResult_any w7 hI7.at_).mono ?_
  rintro e w8 ⟨rfl, b8⟩
  rw [show (Mac.runN putMac 6 f7c.init (List.replicate 96 0)).1.rv = 0 from FX.out.2.2.2.1, show (Mac.runN putMac 6 f7c.init (List.replicate 96 0)).1.e = 0 from FX.out.2.2.1]
  have z8 := b8.size
  have B8 := Lib.hid (B7.out.trans (b8.mono (by omega)))
  have HB8 := Lib.hid (HB7.out.belows b8)
  clear hI7 b8 HB7 HF7 B7
  go_wp2_with fail
  refine (mDo_ok p c 6 f7R.2.1 1 64 8 0 0 none 0 0 [] _ HB8.out (by decide) (by decide) (by decide) (by decide) (by decide) (by decide) (.inl ⟨rfl, rfl⟩) IsB.nil (by rw [FX.out.2.2.2.2.2.1]; decide)).mono ?_
  rintro e w9 ⟨s9, rfl, o9, hb9, k9⟩
  have e16 : doV f7R.2.1 1 64 8 = 16 := FX.out.2.2.2.2.1
  rw [e16]
  obtain ⟨a9, n9, c9, rfl⟩ := o9.isSliceC
  have z9 := k9.size
  have B9 := Lib.hid (B8.out.trans (k9.below (by omega) (fun k h1 h2 => by omega)))
  unfold anV
  clear o9 hb9 k9 HB8 B8 e16
  go_wp2_with (go_at_call 50; refine (rCheck_any 0 0 _ (by decide) (by decide) (by decide) (by decide)).mono ?_; rintro e w10 ⟨rfl, b10⟩; rw [show rgE 0 0 = 1 by decide])
  go_ret
  exact ⟨rfl, (B9.out.alloc (by omega) _).trans (b10.mono (by simp; omega))⟩
end Go.Proofs.YtknahaaefmlcpaaGreat
end
