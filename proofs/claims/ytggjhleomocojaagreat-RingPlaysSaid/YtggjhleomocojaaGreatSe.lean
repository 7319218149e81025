/- A scheduler's world in memory; what a frame leaves of it. Conditions: none. -/
import Derived.Test.YtggjhleomocojaaGreatSd
namespace Go.Proofs.YtggjhleomocojaaGreat
set_option maxRecDepth 100000
open Go.RowKit
set_option linter.unusedVariables false
set_option linter.unusedSimpArgs false
inductive Kd where
 | no
 | wo
 | row
 | ac (i : Nat)
 | tr
 | tb
 | ma (i : Nat)
 | bu
def evL (e : Ev × Value × Value) : List Value := evC e.1.pk e.1.pa e.1.pn e.1.c e.2.1 e.1.x e.2.2
structure EvsIn (w : World) (κ : Nat → Kd) (k : Kd) (es : List (Ev × Value × Value)) : Prop where
 r1 : ∀ e ∈ es, RdB w e.2.1 e.1.c.b
 r2 : ∀ e ∈ es, RdB w e.2.2 e.1.x.b
 k1 : ∀ e ∈ es, ∀ i, e.2.1.ownBlock = some i → κ i = k
 k2 : ∀ e ∈ es, ∀ i, e.2.2.ownBlock = some i → κ i = k
def TrIn (w : World) (κ : Nat → Kd) (tv : Value) (tr : List Ev) : Prop :=
 ∃ es : List (Ev × Value × Value), es.map (·.1) = tr ∧ w.ownsRow 0 76 12 tv es.length (es.flatMap evL) ∧ (∀ i, tv.ownBlock = some i → κ i = .tr) ∧ EvsIn w κ .tb es
structure WoIn (C : Fam) (w : World) (κ : Nat → Kd) (W p c : Nat) (av tv : Value) (ab : Nat → Nat) (S : SW C.M.σ) : Prop where
 hd : Blk w W [.pointer (some ⟨p, 0, none⟩), av, .int .i64 S.clk, tv]
 kW : κ W = .wo
 buf : Buf w p c S.cnt S.bs
 kp : κ p = .bu
 kc : κ c = .bu
 row : (S.acts.length = 0 ∧ av = nilSl) ∨ ∃ g cap, av = .slice (some ⟨g, 0, none⟩) S.acts.length cap ∧ S.acts.length ≤ cap ∧ cap ≤ maxLen ∧ κ g = .row ∧ ∀ i, i < S.acts.length → w.cell? ⟨g, i, none⟩ = some (.pointer (some ⟨ab i, 0, none⟩))
 act : ∀ i a, S.acts[i]? = some a → κ (ab i) = .ac i ∧ AcIn C w (fun k => κ k = .ma i) (ab i) a
 tr : TrIn w κ tv S.tr
 all : ∀ k, κ k ≠ .no → k < w.heap.size
variable {w w' : World} {K : Nat → Prop}
theorem ownsRow_keep {B E s n : Nat} {v : Value} {xs : List Value} (h : w.ownsRow B E s v n xs) (k : Keep K w w') (hd : ∀ i, v.ownBlock = some i → ¬ K i) : w'.ownsRow B E s v n xs := by
 obtain ⟨h1, h2⟩ := h
 refine ⟨h1, h2.imp id ?_⟩
 rintro ⟨g, cap, cur, e1, e2, e3, e4⟩
 exact ⟨g, cap, cur, e1, e2, by rw [k.block g (by have := Array.getElem?_eq_some_iff.1 e3; exact this.1) (hd g (by rw [e1]; rfl))]; exact e3, e4⟩
theorem EvsIn.keep {κ κ' : Nat → Kd} {k : Kd} {es : List (Ev × Value × Value)} (h : EvsIn w κ k es) (kp : Keep K w w') (hd : ∀ i, κ i = k → ¬ K i) (hk : ∀ i, κ i = k → κ' i = k) : EvsIn w' κ' k es :=
 ⟨fun e he => (h.r1 e he).keep kp fun _ i hi => hd i (h.k1 e he i hi), fun e he => (h.r2 e he).keep kp fun _ i hi => hd i (h.k2 e he i hi), fun e he i hi => hk i (h.k1 e he i hi), fun e he i hi => hk i (h.k2 e he i hi)⟩
theorem TrIn.keep {κ κ' : Nat → Kd} {tv : Value} {tr : List Ev} (h : TrIn w κ tv tr) (kp : Keep K w w') (hd : ∀ i, κ i = .tr ∨ κ i = .tb → ¬ K i) (hk : ∀ i, κ i = .tr ∨ κ i = .tb → κ' i = κ i) : TrIn w' κ' tv tr := by
 obtain ⟨es, e, ho, hb, he⟩ := h
 exact ⟨es, e, ownsRow_keep ho kp fun i hi => hd i (.inl (hb i hi)), fun i hi => by rw [hk i (.inl (hb i hi))]; exact hb i hi, he.keep kp (fun i hi => hd i (.inr hi)) (fun i hi => by rw [hk i (.inr hi)]; exact hi)⟩
variable {C : Fam} {κ : Nat → Kd} {W p c : Nat} {av tv : Value} {ab : Nat → Nat}
theorem WoIn.keep {S : SW C.M.σ} (h : WoIn C w κ W p c av tv ab S) (kp : Keep K w w') (hd : ∀ i, κ i ≠ .no → ¬ K i) : WoIn C w' κ W p c av tv ab S where
 hd := h.hd.keep kp (hd _ (by rw [h.kW]; nofun))
 kW := h.kW
 buf := h.buf.keep kp (hd _ (by rw [h.kp]; nofun)) (hd _ (by rw [h.kc]; nofun))
 kp := h.kp
 kc := h.kc
 row := by
  refine h.row.imp id ?_
  rintro ⟨g, cap, e1, e2, e3, e4, e5⟩
  exact ⟨g, cap, e1, e2, e3, e4, fun i hi => (kp.cell _ (h.all g (by rw [e4]; nofun)) (hd g (by rw [e4]; nofun))).trans (e5 i hi)⟩
 act := fun i a hi => by
  obtain ⟨e, ha⟩ := h.act i a hi
  exact ⟨e, ha.keep kp (fun k hk => hd k (by rw [hk]; nofun)) (hd _ (by rw [e]; nofun))⟩
 tr := h.tr.keep kp (fun i hi => hd i (by rcases hi with hi | hi <;> rw [hi] <;> nofun)) (fun _ _ => rfl)
 all := fun k hk => Nat.lt_of_lt_of_le (h.all k hk) kp.size
theorem WoIn.below {S : SW C.M.σ} (h : WoIn C w κ W p c av tv ab S) (b : Below w.heap.size w w') : WoIn C w' κ W p c av tv ab S :=
 h.keep (K := fun _ => False) (Below.keeps b) (fun _ _ => id)
theorem WoIn.rowAt {w : World} {S : SW C.M.σ} (h : WoIn C w κ W p c av tv ab S) {n : Nat} (hn : n < S.acts.length) :
  ∃ g cap, av = .slice (some ⟨g, 0, none⟩) S.acts.length cap ∧ S.acts.length ≤ cap ∧ cap ≤ maxLen ∧ κ g = .row ∧ ∀ i, i < S.acts.length → w.cell? ⟨g, i, none⟩ = some (.pointer (some ⟨ab i, 0, none⟩)) := by
 rcases h.row with ⟨h0, _⟩ | h1
 ·omega
 ·exact h1
theorem WoIn.avSl {w : World} {S : SW C.M.σ} (h : WoIn C w κ W p c av tv ab S) : ∃ a cap, av = .slice a S.acts.length cap ∧ S.acts.length ≤ maxLen := by
 rcases h.row with ⟨h0, rfl⟩ | ⟨g, cap, rfl, h1, h2, _⟩
 ·exact ⟨none, 0, by rw [h0]; rfl, by omega⟩
 ·exact ⟨_, _, rfl, by omega⟩
theorem WoIn.cells {w : World} {S : SW C.M.σ} (h : WoIn C w κ W p c av tv ab S) :
  w.cell? ⟨W, 0, none⟩ = some (.pointer (some ⟨p, 0, none⟩)) ∧ w.cell? ⟨W, 1, none⟩ = some av ∧ w.cell? ⟨W, 2, none⟩ = some (.int .i64 S.clk) ∧ w.cell? ⟨W, 3, none⟩ = some tv :=
 ⟨h.hd.cell 0, h.hd.cell 1, h.hd.cell 2, h.hd.cell 3⟩
set_option maxHeartbeats 400000 in
theorem wAt_some {w : World} {S : SW C.M.σ} (h : WoIn C w κ W p c av tv ab S) (n : Nat) (hn : n < S.acts.length) :
  Calls Tryz.prog 88 #[.pointer (some ⟨W, 0, none⟩), .int .i64 n] w fun e w' => e = .returned (.pointer (some ⟨ab n, 0, none⟩)) ∧ w = w' := by
 obtain ⟨g, cap, rfl, h1, h2, h3, h4⟩ := h.rowAt hn
 obtain ⟨c0, c1, c2, c3⟩ := h.cells
 have hc := h4 n hn
 have hn' : (n : Int) < (S.acts.length : Int) := by omega
 have hg : ¬ (S.acts.length : Int) ≤ (n : Int) := by omega
 have hm : S.acts.length ≤ 9223372036854775807 := by unfold maxLen at h2; omega
 clear h h4 c0 c2 c3
 go_enter Tryz.func88, Tryz.ntmps88
 go_wp2
 go_ret
 exact ⟨rfl, rfl⟩
set_option maxHeartbeats 400000 in
theorem wAt_none {w : World} {S : SW C.M.σ} (h : WoIn C w κ W p c av tv ab S) (n : Int) (hn : n < 0 ∨ (S.acts.length : Int) ≤ n) :
  Calls Tryz.prog 88 #[.pointer (some ⟨W, 0, none⟩), .int .i64 n] w fun e w' => e = .returned (.pointer none) ∧ w = w' := by
 obtain ⟨c0, c1, c2, c3⟩ := h.cells
 obtain ⟨a, cap, rfl, hm⟩ := h.avSl
 unfold maxLen at hm
 clear h c0 c2 c3
 by_cases h0 : n < 0
 ·clear hn
  go_enter Tryz.func88, Tryz.ntmps88
  go_wp2
  go_ret
  exact ⟨rfl, rfl⟩
 ·have h1 : (S.acts.length : Int) ≤ n := by omega
  clear hn
  go_enter Tryz.func88, Tryz.ntmps88
  go_wp2
  go_ret
  exact ⟨rfl, rfl⟩
end Go.Proofs.YtggjhleomocojaaGreat
