/- ref06: a world in memory. Conditions: none. -/
import Derived.Test.YtknahaaefmlcpaaJa
import Derived.Laws.OwnMore
namespace Go.Proofs.Ytknahaaefmlcpaa
set_option maxRecDepth 100000
open Go.RowKit
set_option linter.unusedVariables false
set_option linter.unusedSimpArgs false
def anC (x : AnsV) : List Value := [.int .u64 x.v, .bool x.d, x.s]
theorem anC_len (T : List AnsV) : (T.flatMap anC).length = T.length * 3 := by
  induction T with
  | nil => rfl
  | cons x r ih => rw [List.flatMap_cons, List.length_append, ih]; show 3 + r.length * 3 = (r.length + 1) * 3; omega
theorem anC_at : ∀ (T : List AnsV) (k : Nat) (x : AnsV), T[k]? = some x → (T.flatMap anC)[k * 3]? = some (.int .u64 x.v) ∧ (T.flatMap anC)[k * 3 + 1]? = some (.bool x.d) ∧ (T.flatMap anC)[k * 3 + 2]? = some x.s
  | [], k, x, h => by simp at h
  | y :: r, 0, x, h => by
    obtain rfl : y = x := by simpa using h
    exact ⟨rfl, rfl, rfl⟩
  | y :: r, k + 1, x, h => by
    obtain ⟨h1, h2, h3⟩ := anC_at r k x (by simpa using h)
    rw [List.flatMap_cons]
    have e : (anC y).length = 3 := rfl
    refine ⟨?_, ?_, ?_⟩
    · rw [List.getElem?_append_right (by rw [e]; omega), e, show (k + 1) * 3 - 3 = k * 3 by omega]; exact h1
    · rw [List.getElem?_append_right (by rw [e]; omega), e, show (k + 1) * 3 + 1 - 3 = k * 3 + 1 by omega]; exact h2
    · rw [List.getElem?_append_right (by rw [e]; omega), e, show (k + 1) * 3 + 2 - 3 = k * 3 + 2 by omega]; exact h3
/-- A row of answers that nobody turns; P: its blocks. -/
structure AnT (w : World) (P : Nat → Prop) (tv : Value) (T : List AnsV) : Prop where
  own : w.ownsRow 0 49 3 tv T.length (T.flatMap anC)
  blk : ∀ g, tv.ownBlock = some g → P g
  els : ∀ x ∈ T, (∃ a n c, x.s = .slice a n c) ∧ RdB w x.s x.b ∧ (∀ g, x.s.ownBlock = some g → P g) ∧ x.b.length ≤ 1000
theorem AnT.none (w : World) (P : Nat → Prop) : AnT w P (.slice none 0 0) [] := ⟨World.ownsRow_nil _ _ _ _, (fun g h => by cases h), fun x h => (List.not_mem_nil h).elim⟩
theorem AnT.keep {w w' : World} {P K : Nat → Prop} {tv : Value} {T : List AnsV} (h : AnT w P tv T) (k : Keep K w w') (hd : ∀ i, P i → ¬ K i) : AnT w' P tv T :=
  ⟨ownsRow_keep h.own k (fun i hi => hd i (h.blk i hi)), h.blk, fun x hx => ⟨(h.els x hx).1, (h.els x hx).2.1.keep k (fun _ i hi => hd i ((h.els x hx).2.2.1 i hi)), (h.els x hx).2.2⟩⟩
theorem AnT.below {w w' : World} {P : Nat → Prop} {tv : Value} {T : List AnsV} (h : AnT w P tv T) (b : Below w.heap.size w w') : AnT w' P tv T := h.keep (K := fun _ => False) (Below.keeps b) (fun _ _ => id)
theorem AnT.mono {w : World} {P P' : Nat → Prop} {tv : Value} {T : List AnsV} (h : AnT w P tv T) (hp : ∀ i, P i → P' i) : AnT w P' tv T :=
  ⟨h.own, fun i hi => hp i (h.blk i hi), fun x hx => ⟨(h.els x hx).1, (h.els x hx).2.1, fun g hg => hp g ((h.els x hx).2.2.1 g hg), (h.els x hx).2.2.2⟩⟩
theorem gA_memJ {T : List AnsV} {i : Nat} (hi : i < T.length) : T[i]? = some (gA T i) ∧ gA T i ∈ T := by
  have e : T[i]? = some (gA T i) := by unfold gA; simp [List.getD, hi]
  exact ⟨e, List.mem_of_getElem? e⟩
theorem AnT.rdA {w : World} {P : Nat → Prop} {tv : Value} {T : List AnsV} (h : AnT w P tv T) : RdA w tv T := by
  have ho := h.own
  rcases ho.2 with ⟨rfl, h0⟩ | ⟨g, cap, cur, rfl, _, _, h1, h2, _⟩
  · exact .inl ⟨rfl, List.eq_nil_of_length_eq_zero h0⟩
  · refine .inr (.inr ⟨g, 0, cap, rfl, h1, h2, fun i hi => ?_⟩)
    obtain ⟨m1, m2, m3⟩ := anC_at T i _ (gA_memJ hi).1
    rw [Nat.zero_add, World.ownsRow.cellAt ho _ (by omega), World.ownsRow.cellAt ho _ (by omega), World.ownsRow.cellAt ho _ (by omega)]
    exact ⟨m1, m2, m3⟩
theorem AnT.sls {w : World} {P : Nat → Prop} {tv : Value} {T : List AnsV} (h : AnT w P tv T) : Sls T := fun i hi => (h.els _ (gA_memJ hi).2).1
theorem AnT.rdAs {w : World} {P : Nat → Prop} {tv : Value} {T : List AnsV} (h : AnT w P tv T) : RdAs w T := fun i hi => (h.els _ (gA_memJ hi).2).2.1
theorem AnT.lens {w : World} {P : Nat → Prop} {tv : Value} {T : List AnsV} (h : AnT w P tv T) : ∀ i, i < T.length → (gA T i).b.length ≤ 1000 := fun i hi => (h.els _ (gA_memJ hi).2).2.2.2
/-- What a job is, but what it was told. -/
structure JbS.In (w : World) (κ : Nat → Kd) (j : JbS) : Prop where
  k0 : 0 ≤ j.k
  k1 : j.k ≤ 2
  a0 : 0 ≤ j.a
  a1 : j.a ≤ 1000
  n0 : 0 ≤ j.n
  n1 : j.n ≤ 1000
  s : ∃ a n c, j.s = .slice a n c
  r : RdB w j.s j.b
  l : j.b.length ≤ 1000
  ks : ∀ g, j.s.ownBlock = some g → κ g = .tb
  an : AnT w (fun i => κ i = .tb) j.t j.T
  fine : j.mac.Fine
theorem JbS.In.ok {w : World} {κ : Nat → Kd} {j : JbS} (h : JbS.In w κ j) (hl : j.T.length ≤ 100000) : JbS.Ok w j :=
  ⟨h.k0, h.k1, h.a0, h.a1, h.n0, h.n1, h.s, h.r, h.l, h.an.rdA, h.an.sls, h.an.rdAs, hl, h.an.lens⟩
theorem JbS.In.keep {w w' : World} {κ κ' : Nat → Kd} {K : Nat → Prop} {j : JbS} (h : JbS.In w κ j) (k : Keep K w w') (hd : ∀ i, κ i = .tb → ¬ K i) (hk : ∀ i, κ i = .tb → κ' i = .tb) : JbS.In w' κ' j :=
  ⟨h.k0, h.k1, h.a0, h.a1, h.n0, h.n1, h.s, h.r.keep k (fun _ i hi => hd i (h.ks i hi)), h.l, fun g hg => hk g (h.ks g hg), (h.an.keep k hd).mono hk, h.fine⟩
theorem JbS.In.dead {w : World} {κ : Nat → Kd} {j : JbS} (h : JbS.In w κ j) (d : Bool) : JbS.In w κ { j with d := d } :=
  ⟨h.k0, h.k1, h.a0, h.a1, h.n0, h.n1, h.s, h.r, h.l, h.ks, h.an, h.fine⟩
theorem JbS.In.told {w : World} {κ : Nat → Kd} {j : JbS} (h : JbS.In w κ j) (tv : Value) (x : AnsV) (ha : AnT w (fun i => κ i = .tb) tv (j.T ++ [x])) (hf : (j.mac.step x.b).Fine) : JbS.In w κ { j with t := tv, T := j.T ++ [x] } :=
  ⟨h.k0, h.k1, h.a0, h.a1, h.n0, h.n1, h.s, h.r, h.l, h.ks, ha, by show (CpM.told _ _).Fine; rw [CpM.told_snoc]; exact hf⟩
def JbS.ac (j : JbS) : Ac CpM := ⟨some j.mac, j.d⟩
/-- The reference's world in memory. -/
structure RoIn (w : World) (κ : Nat → Kd) (R bb : Nat) (jv tv : Value) (J : List JbS) (S : SW CpM) : Prop where
  hd : Blk w R [.slice (some ⟨bb, 0, none⟩) S.bs.length S.bs.length, jv, .int .i64 S.clk, tv]
  kR : κ R = .wo
  by_ : Blk w bb (S.bs.map (Value.int .u8))
  kb : κ bb = .bu
  isb : IsB S.bs
  bl : S.bs.length ≤ 131072
  row : w.ownsRow 0 61 6 jv J.length (J.flatMap JbS.cs)
  kj : ∀ g, jv.ownBlock = some g → κ g = .row
  jobs : ∀ j ∈ J, JbS.In w κ j
  st : S.acts = J.map JbS.ac
  tr : TrIn w κ tv S.tr
  all : ∀ i, κ i ≠ .no → i < w.heap.size
theorem RoIn.keep {w w' : World} {κ : Nat → Kd} {R bb : Nat} {jv tv : Value} {J : List JbS} {S : SW CpM} {K : Nat → Prop} (h : RoIn w κ R bb jv tv J S) (k : Keep K w w') (hd : ∀ i, κ i ≠ .no → ¬ K i) : RoIn w' κ R bb jv tv J S :=
  ⟨h.hd.keep k (hd _ (by rw [h.kR]; nofun)), h.kR, h.by_.keep k (hd _ (by rw [h.kb]; nofun)), h.kb, h.isb, h.bl, ownsRow_keep h.row k (fun i hi => hd _ (by rw [h.kj i hi]; nofun)), h.kj, fun j hj => (h.jobs j hj).keep k (fun i hi => hd i (by rw [hi]; nofun)) (fun _ => id), h.st,
    h.tr.keep k (fun i hi => hd i (by rcases hi with hi | hi <;> rw [hi] <;> nofun)) (fun _ _ => rfl), fun i hi => Nat.lt_of_lt_of_le (h.all i hi) k.size⟩
theorem RoIn.below {w w' : World} {κ : Nat → Kd} {R bb : Nat} {jv tv : Value} {J : List JbS} {S : SW CpM} (h : RoIn w κ R bb jv tv J S) (b : Below w.heap.size w w') : RoIn w' κ R bb jv tv J S :=
  h.keep (K := fun _ => False) (Below.keeps b) (fun _ _ => id)
theorem RoIn.no_big {w : World} {κ : Nat → Kd} {R bb : Nat} {jv tv : Value} {J : List JbS} {S : SW CpM} (h : RoIn w κ R bb jv tv J S) {i : Nat} (hi : w.heap.size ≤ i) : κ i = .no := by
  by_cases hk : κ i = .no
  · exact hk
  · exact absurd (h.all i hk) (by omega)
theorem RoIn.cells {w : World} {κ : Nat → Kd} {R bb : Nat} {jv tv : Value} {J : List JbS} {S : SW CpM} (h : RoIn w κ R bb jv tv J S) :
    w.cell? ⟨R, 0, none⟩ = some (.slice (some ⟨bb, 0, none⟩) S.bs.length S.bs.length) ∧ w.cell? ⟨R, 1, none⟩ = some jv ∧ w.cell? ⟨R, 2, none⟩ = some (.int .i64 S.clk) ∧ w.cell? ⟨R, 3, none⟩ = some tv :=
  ⟨h.hd.cell 0, h.hd.cell 1, h.hd.cell 2, h.hd.cell 3⟩
theorem jcs_at : ∀ (J : List JbS) (k : Nat) (j : JbS), J[k]? = some j → ∀ i u, j.cs[i]? = some u → (J.flatMap JbS.cs)[k * 6 + i]? = some u
  | [], k, j, h => by simp at h
  | y :: r, 0, j, h => by
    obtain rfl : y = j := by simpa using h
    intro i u hu
    rw [List.flatMap_cons, List.getElem?_append_left (by have := (List.getElem?_eq_some_iff.1 hu).1; omega), Nat.zero_mul, Nat.zero_add]
    exact hu
  | y :: r, k + 1, j, h => by
    intro i u hu
    have e : (JbS.cs y).length = 6 := rfl
    rw [List.flatMap_cons, List.getElem?_append_right (by rw [e]; omega), e, show (k + 1) * 6 + i - 6 = k * 6 + i by omega]
    exact jcs_at r k j (by simpa using h) i u hu
theorem jcs_set : ∀ (J : List JbS) (k : Nat) (j : JbS), J[k]? = some j → ∀ i u (j' : JbS), i < 6 → j'.cs = j.cs.set i u → (J.flatMap JbS.cs).set (k * 6 + i) u = (J.set k j').flatMap JbS.cs
  | [], k, j, h => by simp at h
  | y :: r, 0, j, h => by
    obtain rfl : y = j := by simpa using h
    intro i u j' hi hu
    have e : (JbS.cs y).length = 6 := rfl
    rw [List.set_cons_zero, List.flatMap_cons, List.flatMap_cons, Nat.zero_mul, Nat.zero_add, List.set_append_left _ _ (by rw [e]; exact hi), hu]
  | y :: r, k + 1, j, h => by
    intro i u j' hi hu
    have e : (JbS.cs y).length = 6 := rfl
    rw [List.set_cons_succ, List.flatMap_cons, List.flatMap_cons, List.set_append_right _ _ (by rw [e]; omega), e, show (k + 1) * 6 + i - 6 = k * 6 + i by omega, jcs_set r k j (by simpa using h) i u j' hi hu]
/-- The cells of a job of the row. -/
theorem RoIn.job {w : World} {κ : Nat → Kd} {R bb : Nat} {jv tv : Value} {J : List JbS} {S : SW CpM} (h : RoIn w κ R bb jv tv J S) {k : Nat} {j : JbS} (hj : J[k]? = some j) :
    ∃ g cap, jv = .slice (some ⟨g, 0, none⟩) J.length cap ∧ J.length ≤ cap ∧ cap ≤ maxLen ∧ κ g = .row ∧ g < w.heap.size ∧ (∀ i u, j.cs[i]? = some u → w.cell? ⟨g, k * 6 + i, none⟩ = some u) ∧ ∀ i, w.frozen? ⟨g, i, none⟩ = false := by
  have hlt : k < J.length := (List.getElem?_eq_some_iff.1 hj).1
  have ho := h.row
  rcases ho.2 with ⟨rfl, h0⟩ | ⟨g, cap, cur, rfl, _, _, h1, h2, _⟩
  · omega
  · refine ⟨g, cap, rfl, h1, h2, h.kj g rfl, (World.ownsRow.lt ho g rfl).2, fun i u hu => ?_, fun i => World.ownsRow.frozenAt ho i⟩
    have hi : i < 6 := (List.getElem?_eq_some_iff.1 hu).1
    rw [World.ownsRow.cellAt ho _ (by omega)]
    exact jcs_at J k j hj i u hu
theorem RoIn.clock {w : World} {κ : Nat → Kd} {R bb : Nat} {jv tv : Value} {J : List JbS} {S : SW CpM} (h : RoIn w κ R bb jv tv J S) (x : Int) : RoIn (w.setCell ⟨R, 2, none⟩ (.int .i64 x)) κ R bb jv tv J { S with clk := x } := by
  have k : Keep (· = R) w (w.setCell ⟨R, 2, none⟩ (.int .i64 x)) := Keep.setCell (M := (· = R)) (Keep.refl _ _) (p := ⟨R, 2, none⟩) (.inl rfl) _
  have ne : ∀ i, κ i ≠ .wo → ¬ i = R := fun i hi e => hi (e ▸ h.kR)
  exact ⟨h.hd.set 2 _, h.kR, h.by_.keep k (ne _ (by rw [h.kb]; nofun)), h.kb, h.isb, h.bl, ownsRow_keep h.row k (fun i hi => ne _ (by rw [h.kj i hi]; nofun)), h.kj, fun j hj => (h.jobs j hj).keep k (fun i hi => ne i (by rw [hi]; nofun)) (fun _ => id), h.st,
    h.tr.keep k (fun i hi => ne i (by rcases hi with hi | hi <;> rw [hi] <;> nofun)) (fun _ _ => rfl), fun i hi => Nat.lt_of_lt_of_le (h.all i hi) k.size⟩
/-- The bytes have turned. -/
theorem RoIn.bytes {w w' : World} {κ : Nat → Kd} {R bb : Nat} {jv tv : Value} {J : List JbS} {S : SW CpM} (h : RoIn w κ R bb jv tv J S) (k : Keep (· = bb) w w') (bs : List Int) (hl : bs.length = S.bs.length) (hb : Blk w' bb (bs.map (Value.int .u8))) (hi : IsB bs) : RoIn w' κ R bb jv tv J { S with bs := bs } := by
  have ne : ∀ i, κ i ≠ .bu → ¬ i = bb := fun i hi e => hi (e ▸ h.kb)
  exact ⟨by dsimp only; rw [hl]; exact h.hd.keep k (ne _ (by rw [h.kR]; nofun)), h.kR, hb, h.kb, hi, by dsimp only; rw [hl]; exact h.bl, ownsRow_keep h.row k (fun i hi => ne _ (by rw [h.kj i hi]; nofun)), h.kj, fun j hj => (h.jobs j hj).keep k (fun i hi => ne i (by rw [hi]; nofun)) (fun _ => id), h.st,
    h.tr.keep k (fun i hi => ne i (by rcases hi with hi | hi <;> rw [hi] <;> nofun)) (fun _ _ => rfl), fun i hi => Nat.lt_of_lt_of_le (h.all i hi) k.size⟩
/-- A job has turned. -/
theorem RoIn.turn {w : World} {κ : Nat → Kd} {R bb : Nat} {jv tv : Value} {J : List JbS} {S : SW CpM} (h : RoIn w κ R bb jv tv J S) {k : Nat} {j j' : JbS} (hj : J[k]? = some j) {g cap : Nat} (hjv : jv = .slice (some ⟨g, 0, none⟩) J.length cap) (i : Nat) (u : Value) (hi : i < 6) (hu : j'.cs = j.cs.set i u)
    (hn : JbS.In w κ j') : RoIn (w.setCell ⟨g, k * 6 + i, none⟩ u) κ R bb jv tv (J.set k j') { S with acts := S.acts.set k j'.ac } := by
  subst hjv
  have kg : κ g = .row := h.kj g rfl
  have kp : Keep (· = g) w (w.setCell ⟨g, k * 6 + i, none⟩ u) := Keep.setCell (M := (· = g)) (Keep.refl _ _) (p := ⟨g, k * 6 + i, none⟩) (.inl rfl) _
  have ne : ∀ i, κ i ≠ .row → ¬ i = g := fun i hi e => hi (e ▸ kg)
  have st := (World.ownsRow.stored h.row (k * 6 + i) u).1
  rw [jcs_set J k j hj i u j' hi hu] at st
  refine ⟨h.hd.keep kp (ne _ (by rw [h.kR]; nofun)), h.kR, h.by_.keep kp (ne _ (by rw [h.kb]; nofun)), h.kb, h.isb, h.bl, by rw [List.length_set]; exact st, h.kj, fun x hx => ?_, ?_,
    h.tr.keep kp (fun i hi => ne i (by rcases hi with hi | hi <;> rw [hi] <;> nofun)) (fun _ _ => rfl), fun i hi => Nat.lt_of_lt_of_le (h.all i hi) kp.size⟩
  · rcases List.mem_or_eq_of_mem_set hx with hx | rfl
    · exact (h.jobs x hx).keep kp (fun i hi => ne i (by rw [hi]; nofun)) (fun _ => id)
    · exact hn.keep kp (fun i hi => ne i (by rw [hi]; nofun)) (fun _ => id)
  · dsimp only
    rw [h.st, List.map_set]
/-- Labels with new ones that may be read. -/
def kdX (κ : Nat → Kd) (P : Nat → Bool) : Nat → Kd := fun i => if P i then .tb else κ i
theorem RoIn.more {w : World} {κ : Nat → Kd} {R bb : Nat} {jv tv : Value} {J : List JbS} {S : SW CpM} (h : RoIn w κ R bb jv tv J S) (P : Nat → Bool) (hP : ∀ i, P i = true → κ i = .no ∧ i < w.heap.size) : RoIn w (kdX κ P) R bb jv tv J S := by
  have old : ∀ i, κ i ≠ .no → kdX κ P i = κ i := by
    intro i hi
    unfold kdX
    split
    · rename_i e
      exact absurd (hP i e).1 hi
    · rfl
  have oldc : ∀ i c, κ i = c → c ≠ .no → kdX κ P i = c := fun i c e hc => by rw [old i (by rw [e]; exact hc)]; exact e
  refine ⟨h.hd, oldc _ _ h.kR nofun, h.by_, oldc _ _ h.kb nofun, h.isb, h.bl, h.row, fun g hg => oldc _ _ (h.kj g hg) nofun, fun j hj => (h.jobs j hj).keep (K := fun _ => False) (Keep.refl _ _) (fun _ _ => id) (fun i hi => oldc _ _ hi nofun), h.st, h.tr.keep (K := fun _ => False) (Keep.refl _ _) (fun _ _ => id) (fun i hi => by rcases hi with hi | hi <;> rw [hi] <;> exact oldc _ _ hi nofun), fun i hi => ?_⟩
  unfold kdX at hi
  split at hi
  · rename_i e
    exact (hP i e).2
  · exact h.all i hi
/-- Labels with the trace's row. -/
def kdR (κ : Nat → Kd) (tv : Value) : Nat → Kd := fun i => if tv.ownBlock = some i then .tr else κ i
/-- An event more. -/
theorem RoIn.traced {w w1 : World} {κ : Nat → Kd} {R bb : Nat} {jv tv tv' : Value} {J : List JbS} {S : SW CpM} (h : RoIn w κ R bb jv tv J S) (es : List (Ev × Value × Value)) (he : es.map (·.1) = S.tr) (hb : ∀ i, tv.ownBlock = some i → κ i = .tr) (hes : EvsIn w κ .tb es)
    (ev : Ev) (sv sx : Value) (r1 : RdB w sv ev.c.b) (r2 : RdB w sx ev.x.b) (kn : ∀ i, sv.ownBlock = some i ∨ sx.ownBlock = some i → κ i = .tb)
    (k : Keep (fun i => tv.ownBlock = some i) w w1) (hown : w1.ownsRow 0 51 12 tv' (es.length + 1) (es.flatMap evL ++ evL (ev, sv, sx))) (hnew : tv'.ownBlock = tv.ownBlock ∨ tv'.ownBlock = some w.heap.size) :
    RoIn (w1.setCell ⟨R, 3, none⟩ tv') (kdR κ tv') R bb jv tv' J { S with tr := S.tr ++ [ev] } := by
  have hnw : ∀ i, tv'.ownBlock = some i → κ i = .tr ∨ i = w.heap.size := by
    intro i hi
    rcases hnew with e | e
    · exact .inl (hb i (e ▸ hi))
    · rw [e] at hi
      exact .inr (Option.some.inj hi).symm
  have hK : Keep (fun i => tv.ownBlock = some i ∨ i = R) w (w1.setCell ⟨R, 3, none⟩ tv') := Keep.setCell (M := fun i => tv.ownBlock = some i ∨ i = R) (k.mono fun i _ hi => .inl hi) (p := ⟨R, 3, none⟩) (.inl (.inr rfl)) _
  have nK : ∀ i, κ i ≠ .tr → κ i ≠ .wo → ¬ (tv.ownBlock = some i ∨ i = R) := by
    rintro i h1 h2 (e | e)
    · exact h1 (hb i e)
    · exact h2 (e ▸ h.kR)
  have same : ∀ i c, κ i = c → c ≠ .no → c ≠ .tr → kdR κ tv' i = c := by
    intro i c e h1 h2
    unfold kdR
    rw [if_neg]
    · exact e
    · intro hi
      rcases hnw i hi with e' | e'
      · exact h2 (e.symm.trans e')
      · have := h.all i (by rw [e]; exact h1)
        omega
  have hRne : tv'.ownBlock ≠ some R := by
    intro e
    rcases hnw R e with e' | e'
    · rw [h.kR] at e'
      cases e'
    · have := h.hd.lt
      omega
  refine ⟨?_, same _ _ h.kR nofun nofun, h.by_.keep hK (nK _ (by rw [h.kb]; nofun) (by rw [h.kb]; nofun)), same _ _ h.kb nofun nofun, h.isb, h.bl, ownsRow_keep h.row hK (fun i hi => nK _ (by rw [h.kj i hi]; nofun) (by rw [h.kj i hi]; nofun)), fun g hg => same _ _ (h.kj g hg) nofun nofun, fun j hj => (h.jobs j hj).keep hK (fun i hi => nK i (by rw [hi]; nofun) (by rw [hi]; nofun)) (fun i hi => same _ _ hi nofun nofun), h.st, ?_, ?_⟩
  · exact (h.hd.keep k (fun e => by have := hb R e; rw [h.kR] at this; cases this)).set 3 tv'
  · refine ⟨es ++ [(ev, sv, sx)], by simp [he], ?_, ?_, ?_⟩
    · have e := ownsRow_keep hown (Keep.setCell (M := (· = R)) (Keep.refl _ w1) (p := ⟨R, 3, none⟩) (.inl rfl) tv') (fun i hi e => hRne (e ▸ hi))
      simpa using e
    · intro i hi
      unfold kdR
      rw [if_pos hi]
    · have hes' := hes.keep (κ' := kdR κ tv') hK (fun i hi => nK i (by rw [hi]; nofun) (by rw [hi]; nofun)) (fun i hi => same _ _ hi nofun nofun)
      have nuK : ∀ i, sv.ownBlock = some i ∨ sx.ownBlock = some i → ¬ (tv.ownBlock = some i ∨ i = R) := fun i hi => nK i (by rw [kn i hi]; nofun) (by rw [kn i hi]; nofun)
      refine ⟨?_, ?_, ?_, ?_⟩
      · intro e hm
        rcases List.mem_append.1 hm with hm | hm
        · exact hes'.r1 e hm
        · obtain rfl := List.mem_singleton.1 hm
          exact r1.keep hK fun _ i hi => nuK i (.inl hi)
      · intro e hm
        rcases List.mem_append.1 hm with hm | hm
        · exact hes'.r2 e hm
        · obtain rfl := List.mem_singleton.1 hm
          exact r2.keep hK fun _ i hi => nuK i (.inr hi)
      · intro e hm
        rcases List.mem_append.1 hm with hm | hm
        · exact hes'.k1 e hm
        · obtain rfl := List.mem_singleton.1 hm
          exact fun i hi => same _ _ (kn i (.inl hi)) nofun nofun
      · intro e hm
        rcases List.mem_append.1 hm with hm | hm
        · exact hes'.k2 e hm
        · obtain rfl := List.mem_singleton.1 hm
          exact fun i hi => same _ _ (kn i (.inr hi)) nofun nofun
  · intro i hi
    have hsz := hK.size
    unfold kdR at hi
    split at hi
    · rename_i e
      have hl := (World.ownsRow.lt hown i e).2
      simpa [World.setCell] using hl
    · have := h.all i hi
      omega
end Go.Proofs.Ytknahaaefmlcpaa
