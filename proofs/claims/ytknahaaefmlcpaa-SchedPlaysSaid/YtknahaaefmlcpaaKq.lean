/- The state of a copy that reads; what Take makes of it; copies.Out. Conditions: as each says. -/
import Derived.Test.YtknahaaefmlcpaaKo
namespace Go.Proofs.Ytknahaaefmlcpaa
set_option maxRecDepth 100000
open Go.RowKit
set_option linter.unusedVariables false
set_option linter.unusedSimpArgs false
theorem enOut (args : Array Value) (w : World) : (callFunc 96 args).run Try.prog w = .ok (.enter 96 args) w :=
  enters_of Try.func96 (by kernel_rfl) rfl args w
theorem OutK.keep {w w' : World} {O M : Nat → Prop} {t : Value} {q : Nat} {a k n : Int} (h : OutK w O t q a k n) (kp : Keep M w w') (hd : ∀ i, O i → ¬ M i) : OutK w' O t q a k n := by
  obtain ⟨cb, ab, nb, bb, e, h1, h2, h3, h4, o1, o2, o3, o4⟩ := h
  exact ⟨cb, ab, nb, bb, e, h1.keep kp (hd _ o1), h2.keep kp (hd _ o2), h3.keep kp (hd _ o3), h4.keep kp (hd _ o4), o1, o2, o3, o4⟩
theorem OutK.mono {w : World} {O O' : Nat → Prop} {t : Value} {q : Nat} {a k n : Int} (h : OutK w O t q a k n) (hd : ∀ i, O i → O' i) : OutK w O' t q a k n := by
  obtain ⟨cb, ab, nb, bb, e, h1, h2, h3, h4, o1, o2, o3, o4⟩ := h
  exact ⟨cb, ab, nb, bb, e, h1, h2, h3, h4, hd _ o1, hd _ o2, hd _ o3, hd _ o4⟩
/-- A copy that reads n bytes more from a place on, and read these so far; O: the blocks of what it goes on with, R: the block of what it read. -/
def OutSt (w : World) (O R : Nat → Prop) (q : Nat) (at0 : Int) (n : Nat) (have0 : List Int) : Prop :=
  ∃ (c : Acc) (t rv : Value), Mch w q c t [rv] ∧ OwB 5 0 w rv have0 ∧ (∀ b, rv.ownBlock = some b → R b) ∧ ((n = 0 ∧ t = .nilFunc) ∨ (1 ≤ n ∧ c = ⟨5, at0, min (n : Int) 8, 0, 0, .slice none 0 0⟩ ∧ OutK w O t q at0 (min (n : Int) 8) n))
theorem OutSt.keep {w w' : World} {O R M : Nat → Prop} {q : Nat} {a : Int} {n : Nat} {h0 : List Int} (h : OutSt w O R q a n h0) (kp : Keep M w w') (hd : ∀ i, O i → ¬ M i) (hr : ∀ i, R i → ¬ M i) (hq : ¬ M q) : OutSt w' O R q a n h0 := by
  obtain ⟨c, t, rv, m, o, ho, hk⟩ := h
  refine ⟨c, t, rv, Blk.keep m kp hq, ?_, ho, ?_⟩
  · obtain ⟨h1, h2⟩ := o
    refine ⟨h1, h2.imp id ?_⟩
    rintro ⟨g, cap, cur, e1, e2, e3, e4⟩
    exact ⟨g, cap, cur, e1, e2, by rw [kp.block g (by have := Array.getElem?_eq_some_iff.1 e3; exact this.1) (hr _ (ho _ (by rw [e1]; rfl)))]; exact e3, e4⟩
  · rcases hk with hk | ⟨h1, h2, h3⟩
    · exact .inl hk
    · exact .inr ⟨h1, h2, h3.keep kp hd⟩
theorem Mch.noByte {w : World} {q : Nat} {c : Acc} {t rv : Value} {o : Nat} {y : Int} (h : Mch w q c t [rv]) (hb : ∀ z, c.b ≠ .int .u8 z) (ht : ∀ z, t ≠ .int .u8 z) (hr : ∀ z, rv ≠ .int .u8 z) (hc : w.cell? ⟨q, o, none⟩ = some (.int .u8 y)) : False := by
  rw [Blk.cell h o] at hc
  match o with
  | 0 => simp [Acc.cs] at hc
  | 1 => simp [Acc.cs] at hc
  | 2 => simp [Acc.cs] at hc
  | 3 => simp [Acc.cs] at hc
  | 4 => simp [Acc.cs] at hc
  | 5 => simp [Acc.cs] at hc; exact hb _ hc
  | 6 => simp [Acc.cs] at hc; exact ht _ hc
  | 7 => simp [Acc.cs] at hc; exact hr _ hc
  | o + 8 => simp [Acc.cs] at hc
/-- Take of a copy that reads. -/
theorem cpTake_out (O R : Nat → Prop) (q : Nat) (at0 : Int) (n : Nat) (have0 l : List Int) (v : Int) (d : Bool) (s0 : Option Addr) (sl sc : Nat) (w : World) (h : OutSt w O R q at0 n have0) (hn : 1 ≤ n) (hn' : n ≤ 131072) (hr : RdB w (.slice s0 sl sc) l) (hlen : have0.length + l.length ≤ 70368744177664)
    (hO : ∀ i, O i → i ≠ q ∧ ¬ R i) (hR : ¬ R q) (ha : -2305843009213693952 ≤ at0) (ha' : at0 ≤ 2305843009213693952) :
    Calls Try.prog 145 #[.pointer (some ⟨q, 0, none⟩), .agg #[.int .u64 v, .bool d, .slice s0 sl sc]] w fun e w' =>
      e = .returned (.tuple #[]) ∧ (∃ m, w.heap.size ≤ m ∧ m ≤ w'.heap.size ∧ OutSt w' (fun k => m ≤ k ∧ k < w'.heap.size) (fun k => R k ∨ (w.heap.size ≤ k ∧ k < m)) q (at0 + (min n 8 : Nat)) (n - min n 8) (have0 ++ l)) ∧ Keep (fun i => i = q ∨ R i) w w' := by
  refine cpTake_lift q v d s0 sl sc w (fun w' => (∃ m, w.heap.size ≤ m ∧ m ≤ w'.heap.size ∧ OutSt w' (fun k => m ≤ k ∧ k < w'.heap.size) (fun k => R k ∨ (w.heap.size ≤ k ∧ k < m)) q (at0 + (min n 8 : Nat)) (n - min n 8) (have0 ++ l)) ∧ Keep (fun i => i = q ∨ R i) w w') ?_
  have qlt : q < w.heap.size := by
    obtain ⟨_, _, _, mm, _⟩ := h
    exact Blk.lt mm
  intro w1 b1
  have z1 := b1.size
  have h1 := h.keep (M := fun _ => False) (Below.keeps b1) (fun _ _ => id) (fun _ _ => id) id
  obtain ⟨c, t, rv, m, own, hro, hk⟩ := h1
  rcases hk with ⟨hk, _⟩ | ⟨_, rfl, cb, ab, kb, nb, rfl, k0, k1, k2, k3, o0, o1, o2, o3⟩
  · omega
  obtain ⟨ra, rn, rc, rfl⟩ := own.isSliceC
  have emin : min (n : Int) 8 = ((min n 8 : Nat) : Int) := by omega
  rw [emin] at k2
  refine (cTake_any q _ _ _ [.slice ra rn rc] v d s0 sl sc w1 m (fun w1 => enOut _ w1) (fun w' => (∃ m, w.heap.size ≤ m ∧ m ≤ w'.heap.size ∧ OutSt w' (fun k => m ≤ k ∧ k < w'.heap.size) (fun k => R k ∨ (w.heap.size ≤ k ∧ k < m)) q (at0 + (min n 8 : Nat)) (n - min n 8) (have0 ++ l)) ∧ Keep (fun i => i = q ∨ R i) w w') ?_)
  intro w2 m2 kp2
  have z2 := kp2.size
  have hr2 : RdB w2 (.slice s0 sl sc) l := by
    refine (hr.below b1).keepNe kp2 ?_
    rintro b off i y e hc rfl
    exact Mch.noByte m (by simp) (by simp) (by simp) hc
  have own2 : OwB 5 0 w2 (.slice ra rn rc) have0 := by
    obtain ⟨x1, x2⟩ := own
    refine ⟨x1, x2.imp id ?_⟩
    rintro ⟨g, cap, cur, e1, e2, e3, e4⟩
    refine ⟨g, cap, cur, e1, e2, ?_, e4⟩
    rw [kp2.block g (by have := Array.getElem?_eq_some_iff.1 e3; exact this.1) (fun e => hR (e ▸ hro g (by rw [e1]; rfl)))]
    exact e3
  have nr : ∀ i, O i → Value.ownBlock (.slice ra rn rc) ≠ some i := fun i hi e => (hO i hi).2 (hro i e)
  refine (outK_any q accZ .nilFunc (.slice ra rn rc) [] have0 l at0 (min n 8) n v d s0 sl sc cb ab kb nb w2 (k0.keep kp2 (hO _ o0).1) (k1.keep kp2 (hO _ o1).1) (k2.keep kp2 (hO _ o2).1) (k3.keep kp2 (hO _ o3).1) m2 own2 hr2 hlen ha ha' (by omega) hn' (by omega)
    ⟨(hO _ o0).1, (hO _ o1).1, (hO _ o2).1, (hO _ o3).1⟩ ⟨fun e => hR (hro _ e), nr _ o0, nr _ o1, nr _ o2, nr _ o3⟩
    (fun w' => (∃ m, w.heap.size ≤ m ∧ m ≤ w'.heap.size ∧ OutSt w' (fun k => m ≤ k ∧ k < w'.heap.size) (fun k => R k ∨ (w.heap.size ≤ k ∧ k < m)) q (at0 + (min n 8 : Nat)) (n - min n 8) (have0 ++ l)) ∧ Keep (fun i => i = q ∨ R i) w w') ?_)
  intro w3 rv' m3 own3 ho3 kp3
  have z3 := kp3.size
  have K3 : Keep (fun i => i = q ∨ R i) w w3 := ((Below.keeps b1).trans (kp2.mono (fun _ _ e => .inl e))).trans (kp3.mono (fun i _ e => by
    rcases e with e | e
    · exact .inl e
    · exact .inr (hro _ e)))
  have hR3 : ∀ b, rv'.ownBlock = some b → R b ∨ (w.heap.size ≤ b ∧ b < w3.heap.size) := by
    intro b hb
    rcases ho3 with e | ⟨b', e, e1, e2⟩
    · exact .inl (hro b (e ▸ hb))
    · rw [e] at hb
      cases hb
      exact .inr ⟨by omega, e2⟩
  by_cases hz : n ≤ 8
  · have e0 : (n : Int) - ((min n 8 : Nat) : Int) = 0 := by omega
    rw [e0]
    refine (out_end q _ 0 w3 (by omega)).mono ?_
    rintro e w' ⟨rfl, b4⟩
    have z4 := b4.size
    refine ⟨rfl, ⟨w3.heap.size, by omega, by omega, accZ, .nilFunc, rv', Blk.below m3 b4 m3.lt, own3.below b4, hR3, .inl ⟨by omega, rfl⟩⟩, K3.trans (Below.keeps b4)⟩
  · have e0 : (n : Int) - ((min n 8 : Nat) : Int) = ((n - min n 8 : Nat) : Int) := by omega
    rw [e0]
    refine (out_more q accZ .nilFunc [rv'] _ (n - min n 8) w3 m3 (by omega) (by omega)).mono ?_
    rintro e w' ⟨rfl, t', m4, ok4, kp4⟩
    have z4 := kp4.size
    have nq : ∀ b, rv'.ownBlock = some b → b ≠ q := by
      rintro b hb rfl
      rcases hR3 b hb with h | ⟨h, _⟩
      · exact hR h
      · omega
    have own4 : OwB 5 0 w' rv' (have0 ++ l) := by
      obtain ⟨x1, x2⟩ := own3
      refine ⟨x1, x2.imp id ?_⟩
      rintro ⟨g, cap, cur, e1, e2, e3, e4⟩
      refine ⟨g, cap, cur, e1, e2, ?_, e4⟩
      rw [kp4.block g (by have := Array.getElem?_eq_some_iff.1 e3; exact this.1) (nq g (by rw [e1]; rfl))]
      exact e3
    exact ⟨rfl, ⟨w3.heap.size, by omega, by omega, _, t', rv', m4, own4, hR3, .inr ⟨by omega, rfl, ok4.mono (fun i hi => ⟨by omega, hi.2⟩)⟩⟩, K3.trans (kp4.mono (fun _ _ e => .inl e))⟩
set_option maxHeartbeats 1000000 in
theorem cpOut_more (at0 : Int) (n : Nat) (w : World) (hn : 1 ≤ n) (hn' : n ≤ 131072) :
    Calls Try.prog 31 #[.int .i64 at0, .int .i64 n] w fun e w' => ∃ q O, e = .returned (ptr q) ∧ w.heap.size ≤ q ∧ Below w.heap.size w w' ∧ OutSt w' O (fun _ => False) q at0 n [] ∧ (∀ i, O i → w.heap.size ≤ i ∧ i < w'.heap.size ∧ i ≠ q) := by
  have h' : (n : Int) ≤ 131072 := by omega
  go_enter Try.func31, Try.ntmps31
  go_wp2_with fail
  refine (out_more w.heap.size accZ .nilFunc [nilS] at0 n _ (Blk.made w #[.int .i64 0, .int .i64 0, .int .i64 0, .int .u64 0, .int .u64 0, .slice none 0 0, .nilFunc, .slice none 0 0] _) hn hn').mono ?_
  rintro e w1 ⟨rfl, t', m1, ok1, k1⟩
  have z1 := k1.size
  simp at z1
  go_wp2
  go_ret
  refine ⟨w.heap.size, _, rfl, Nat.le_refl _, ?_, ⟨_, t', nilS, m1, OwB.nil _ _ _, (fun b hb => by cases hb), .inr ⟨hn, rfl, ok1⟩⟩, fun i hi => ?_⟩
  · exact Below.trans (by go_grown) (k1.below (by simp) (by intro k hk e; omega))
  · simp at hi
    omega
/-- Next of a copy that reads. -/
theorem cpNext_out (O R : Nat → Prop) (q : Nat) (at0 : Int) (n : Nat) (have0 : List Int) (w : World) (h : OutSt w O R q at0 n have0) :
    Calls Try.prog 144 #[.pointer (some ⟨q, 0, none⟩)] w fun e w' => ∃ s, e = .returned (.tuple #[(if n = 0 then Acc.mk 0 0 0 0 0 s else Acc.mk 5 at0 (min (n : Int) 8) 0 0 s).V, .bool (decide (n ≠ 0))]) ∧ OwB 5 w.heap.size w' s [] ∧ Below w.heap.size w w' := by
  obtain ⟨c, t, rv, m, o, ho, hk⟩ := h
  rcases hk with ⟨rfl, rfl⟩ | ⟨h1, rfl, cb, ab, kb, nb, rfl, _⟩
  · exact cpNext_end q c [rv] w m
  · have hn0 : n ≠ 0 := by omega
    refine (cpNext_more q 5 at0 (min (n : Int) 8) 0 0 none 0 0 [] _ _ [rv] w m (.inl ⟨rfl, rfl⟩) (by simp)).mono ?_
    rintro e w' ⟨s, rfl, h2, h3⟩
    refine ⟨s, ?_, h2, h3⟩
    rw [if_neg hn0, show decide (n ≠ 0) = true by simpa using hn0]
set_option maxHeartbeats 2000000 in
theorem cpZero_row (at0 : Int) (n : Nat) (w : World) (hn : 1 ≤ n) (hn' : n ≤ 131072) :
    Calls Try.prog 30 #[.int .i64 at0, .int .i64 n] w fun e w' => ∃ q O, e = .returned (ptr q) ∧ w.heap.size ≤ q ∧ Below w.heap.size w w' ∧ InSt w' O q at0 (List.replicate n 0) fnNone [nilS] ∧ (∀ i, O i → w.heap.size ≤ i ∧ i < w'.heap.size) ∧ ¬ O q := by
  have h' : (n : Int) ≤ 131072 := by omega
  go_enter Try.func30, Try.ntmps30
  go_wp2_with fail
  refine (cZero_st w.heap.size accZ .nilFunc [nilS] at0 n _ _ _ (Blk.made w #[.int .i64 0, .int .i64 0, .int .i64 0, .int .u64 0, .int .u64 0, .slice none 0 0, .nilFunc, .slice none 0 0] _) hn hn').mono ?_
  rintro e w1 ⟨rfl, st1, k1⟩
  have z1 := k1.size
  simp at z1
  go_wp2
  go_ret
  refine ⟨w.heap.size, _, rfl, Nat.le_refl _, Below.trans (by go_grown) (k1.below (by simp) (by intro k hk e; omega)), st1, fun i hi => ?_, fun hi => ?_⟩
  · simp at hi
    omega
  · simp at hi
    omega
end Go.Proofs.Ytknahaaefmlcpaa
