/- The fixed facts of layer 5 hold; CopiesNil. -/
import Derived.Test.YtknahaaefmlcpaaKw
import Derived.Lib.SlBytesConst
namespace Go.Proofs.Ytknahaaefmlcpaa
set_option maxRecDepth 100000
open Go.RowKit
set_option linter.unusedVariables false
set_option linter.unusedSimpArgs false
set_option maxHeartbeats 1000000 in
/-- Take of a copy, by the contract of its machine's Take. -/
theorem cpTake_lift (q : Nat) (v : Int) (d : Bool) (s0 : Option Addr) (sl sc : Nat) (w : World) (Q : World → Prop)
    (hF : ∀ w1, Below w.heap.size w w1 → Calls Try.prog 63 #[.pointer (some ⟨q, 0, none⟩), .agg #[.int .u64 v, .bool d, .slice s0 sl sc]] w1 fun e w' => e = .returned (.tuple #[]) ∧ Q w') :
    Calls Try.prog 145 #[.pointer (some ⟨q, 0, none⟩), .agg #[.int .u64 v, .bool d, .slice s0 sl sc]] w fun e w' => e = .returned (.tuple #[]) ∧ Q w' := by
  have HF := Lib.hid hF
  clear hF
  go_enter Try.func145, Try.ntmps145
  go_wp2_with fail
  go_region_with ((go_at_call 63; refine (HF.out _ (by go_grown)).mono ?_; rintro e w' ⟨rfl, hQ⟩))
  go_wp2
  go_end0
  exact ⟨rfl, hQ⟩
theorem cpTake_more (O : Nat → Prop) (q : Nat) (at0 : Int) (l : List Int) (g : Nat) (gc : Array Value) (r : List Value) (v : Int) (d : Bool) (s0 : Option Addr) (sl sc : Nat) (w : World) (h : InSt w O q at0 l (.func (.func g) #[] gc) r) (hO : ¬ O q) (h8 : 8 < l.length) (hl : l.length ≤ 131072)
    (ha : -2305843009213693952 ≤ at0) (ha' : at0 ≤ 2305843009213693952) :
    Calls Try.prog 145 #[.pointer (some ⟨q, 0, none⟩), .agg #[.int .u64 v, .bool d, .slice s0 sl sc]] w fun e w' =>
      e = .returned (.tuple #[]) ∧ InSt w' (fun k => O k ∨ (w.heap.size ≤ k ∧ k < w'.heap.size)) q (at0 + 8) (l.drop 8) (.func (.func g) #[] gc) r ∧ Keep (· = q) w w' := by
  refine cpTake_lift q v d s0 sl sc w (fun w' => InSt w' (fun k => O k ∨ (w.heap.size ≤ k ∧ k < w'.heap.size)) q (at0 + 8) (l.drop 8) (.func (.func g) #[] gc) r ∧ Keep (· = q) w w') ?_
  intro w1 b1
  refine (inTake_more O q at0 l g gc r v d s0 sl sc w1 (h.keep (M := fun _ => False) (Below.keeps b1) (fun _ _ => id) id) hO h8 hl ha ha').mono ?_
  rintro e w' ⟨rfl, hs, hk⟩
  have := b1.size
  exact ⟨rfl, hs.mono (fun i hi => by rcases hi with hi | hi; exact .inl hi; exact .inr ⟨by omega, hi.2⟩), (Below.keeps b1).trans hk⟩
theorem cpTake_last (O : Nat → Prop) (q : Nat) (at0 : Int) (l : List Int) (r : List Value) (v : Int) (d : Bool) (s0 : Option Addr) (sl sc : Nat) (w : World) (h : InSt w O q at0 l fnNone r) (hO : ¬ O q) (h8 : l.length ≤ 8)
    (ha : -2305843009213693952 ≤ at0) (ha' : at0 ≤ 2305843009213693952) :
    Calls Try.prog 145 #[.pointer (some ⟨q, 0, none⟩), .agg #[.int .u64 v, .bool d, .slice s0 sl sc]] w fun e w' =>
      e = .returned (.tuple #[]) ∧ Mch w' q accZ .nilFunc r ∧ Keep (· = q) w w' := by
  refine cpTake_lift q v d s0 sl sc w (fun w' => Mch w' q accZ .nilFunc r ∧ Keep (· = q) w w') ?_
  intro w1 b1
  refine (inTake_last O q at0 l _ _ r v d s0 sl sc w1 (h.keep (M := fun _ => False) (Below.keeps b1) (fun _ _ => id) id) hO h8 ha ha' (fun w1 => enNone _ w1) (fun w' => Mch w' q accZ .nilFunc r) (· = q) rfl (fun i hi e => hO (e ▸ hi)) ?_).mono ?_
  · intro w2 m2 k2
    refine (none_any w2).mono ?_
    rintro e w' ⟨rfl, rfl⟩
    exact ⟨rfl, m2, Keep.refl _ _⟩
  · rintro e w' ⟨rfl, hm, hk⟩
    exact ⟨rfl, hm, (Below.keeps b1).trans hk⟩
/-- Next of a copy that writes. -/
theorem cpNext_in (O : Nat → Prop) (q : Nat) (at0 : Int) (l : List Int) (g : Nat) (gc : Array Value) (r : List Value) (w : World) (h : InSt w O q at0 l (.func (.func g) #[] gc) r) :
    Calls Try.prog 144 #[.pointer (some ⟨q, 0, none⟩)] w fun e w' => ∃ s, e = .returned (.tuple #[(Acc.mk 6 at0 ((min l.length 8 : Nat) : Int) 0 0 s).V, .bool true]) ∧ OwB 5 w.heap.size w' s (l.take 8) ∧ Below w.heap.size w w' := by
  obtain ⟨b, off, cap, n, t, m, rfl, hl0, hc, hcm, ⟨cb, ab, nb, bb, tb, rfl, k0, k1, k2, k3, k4, o0, o1, o2, o3, o4⟩, ob, hcell⟩ := h
  have e8 : l.take 8 = l.take (min l.length 8) := by
    by_cases h : l.length ≤ 8
    · rw [Nat.min_eq_left h, List.take_length, List.take_of_length_le h]
    · rw [Nat.min_eq_right (by omega)]
  have hr : RdB w (.slice (some ⟨b, off, none⟩) (min l.length 8) (min l.length 8)) (l.take 8) := by
    refine RdB.cells (by simp; omega) (Nat.le_refl _) (by unfold maxLen; omega) fun i hi => ?_
    rw [hcell i (by omega), gB_take _ _ _ (by omega)]
  exact cpNext_more q 6 at0 _ 0 0 _ _ _ (l.take 8) _ _ r w m hr (by simp; omega)
def l19 : List Int := [49, 50, 51, 52, 53, 54, 55, 56, 57]
theorem str8 : strOfNums (l19.take 8) = ⟨#[49, 50, 51, 52, 53, 54, 55, 56]⟩ := by decide
theorem str1 : strOfNums ((l19.drop 8).take 8) = ⟨#[57]⟩ := by decide
end Go.Proofs.Ytknahaaefmlcpaa
