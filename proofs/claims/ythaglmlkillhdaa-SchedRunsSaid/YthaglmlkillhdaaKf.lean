/- The fixed facts of layer 5 hold; CopiesNil. -/
import Derived.Test.YthaglmlkillhdaaKw
import Derived.Lib.SlBytesConst
namespace Go.Proofs.Ythaglmlkillhdaa
set_option maxRecDepth 100000
open Go.RowKit
set_option linter.unusedVariables false
set_option linter.unusedSimpArgs false
set_option maxHeartbeats 1000000 in
/-- Take of a copy, by the contract of its machine's Take. -/
theorem cpTake_lift (q : Nat) (v : Int) (d : Bool) (s0 : Option Addr) (sl sc : Nat) (w : World) (Q : World → Prop)
    (hF : ∀ w1, Below w.heap.size w w1 → Calls Try.prog 59 #[.pointer (some ⟨q, 0, none⟩), .agg #[.int .u64 v, .bool d, .slice s0 sl sc]] w1 fun e w' => e = .returned (.tuple #[]) ∧ Q w') :
    Calls Try.prog 18 #[.pointer (some ⟨q, 0, none⟩), .agg #[.int .u64 v, .bool d, .slice s0 sl sc]] w fun e w' => e = .returned (.tuple #[]) ∧ Q w' := by
  have HF := Lib.hid hF
  clear hF
  go_enter Try.func18, Try.ntmps18
  go_wp2_with fail
  go_region_with ((go_at_call 59; refine (HF.out _ (by go_grown)).mono ?_; rintro e w' ⟨rfl, hQ⟩))
  go_wp2
  go_end0
  exact ⟨rfl, hQ⟩
theorem cpTake_more (O : Nat → Prop) (q : Nat) (at0 : Int) (l : List Int) (g : Nat) (gc : Array Value) (r : List Value) (v : Int) (d : Bool) (s0 : Option Addr) (sl sc : Nat) (w : World) (h : InSt w O q at0 l (.func (.func g) #[] gc) r) (hO : ¬ O q) (h8 : 8 < l.length) (hl : l.length ≤ 131072)
    (ha : -2305843009213693952 ≤ at0) (ha' : at0 ≤ 2305843009213693952) :
    Calls Try.prog 18 #[.pointer (some ⟨q, 0, none⟩), .agg #[.int .u64 v, .bool d, .slice s0 sl sc]] w fun e w' =>
      e = .returned (.tuple #[]) ∧ InSt w' (fun k => O k ∨ (w.heap.size ≤ k ∧ k < w'.heap.size)) q (at0 + 8) (l.drop 8) (.func (.func g) #[] gc) r ∧ Keep (· = q) w w' := by
  refine cpTake_lift q v d s0 sl sc w (fun w' => InSt w' (fun k => O k ∨ (w.heap.size ≤ k ∧ k < w'.heap.size)) q (at0 + 8) (l.drop 8) (.func (.func g) #[] gc) r ∧ Keep (· = q) w w') ?_
  intro w1 b1
  refine (inTake_more O q at0 l g gc r v d s0 sl sc w1 (h.keep (M := fun _ => False) (Below.keeps b1) (fun _ _ => id) id) hO h8 hl ha ha').mono ?_
  rintro e w' ⟨rfl, hs, hk⟩
  have := b1.size
  exact ⟨rfl, hs.mono (fun i hi => by rcases hi with hi | hi; exact .inl hi; exact .inr ⟨by omega, hi.2⟩), (Below.keeps b1).trans hk⟩
theorem cpTake_last (O : Nat → Prop) (q : Nat) (at0 : Int) (l : List Int) (r : List Value) (v : Int) (d : Bool) (s0 : Option Addr) (sl sc : Nat) (w : World) (h : InSt w O q at0 l fnNone r) (hO : ¬ O q) (h8 : l.length ≤ 8)
    (ha : -2305843009213693952 ≤ at0) (ha' : at0 ≤ 2305843009213693952) :
    Calls Try.prog 18 #[.pointer (some ⟨q, 0, none⟩), .agg #[.int .u64 v, .bool d, .slice s0 sl sc]] w fun e w' =>
      e = .returned (.tuple #[]) ∧ Mch w' q accZ .nilFunc r ∧ Keep (· = q) w w' := by
  refine cpTake_lift q v d s0 sl sc w (fun w' => Mch w' q accZ .nilFunc r ∧ Keep (· = q) w w') ?_
  intro w1 b1
  refine (inTake_last O q at0 l _ _ r v d s0 sl sc w1 (h.keep (M := fun _ => False) (Below.keeps b1) (fun _ _ => id) id) hO h8 ha ha' (fun w1 => enNone _ w1) (fun w' => Mch w' q accZ .nilFunc r) (· = q) rfl (fun i hi e => hO (e ▸ hi)) ?_).mono ?_
  · intro w2 m2 k2
    refine (none_any w2).mono ?_
    rintro e w' ⟨rfl, rfl⟩
    exact ⟨rfl, m2, Keep.refl _ _⟩
  · rintro e w' ⟨rfl, hm, hk⟩
    exact ⟨rfl, hm, (Below.keeps b1).trans hk⟩
/-- Next of a copy that writes. -/
theorem cpNext_in (O : Nat → Prop) (q : Nat) (at0 : Int) (l : List Int) (g : Nat) (gc : Array Value) (r : List Value) (w : World) (h : InSt w O q at0 l (.func (.func g) #[] gc) r) :
    Calls Try.prog 15 #[.pointer (some ⟨q, 0, none⟩)] w fun e w' => ∃ s, e = .returned (.tuple #[(Acc.mk 6 at0 ((min l.length 8 : Nat) : Int) 0 0 s).V, .bool true]) ∧ OwB 5 w.heap.size w' s (l.take 8) ∧ Below w.heap.size w w' := by
  obtain ⟨b, off, cap, n, t, m, rfl, hl0, hc, hcm, ⟨cb, ab, nb, bb, tb, rfl, k0, k1, k2, k3, k4, o0, o1, o2, o3, o4⟩, ob, hcell⟩ := h
  have e8 : l.take 8 = l.take (min l.length 8) := by
    by_cases h : l.length ≤ 8
    · rw [Nat.min_eq_left h, List.take_length, List.take_of_length_le h]
    · rw [Nat.min_eq_right (by omega)]
  have hr : RdB w (.slice (some ⟨b, off, none⟩) (min l.length 8) (min l.length 8)) (l.take 8) := by
    refine RdB.cells (by simp; omega) (Nat.le_refl _) (by unfold maxLen; omega) fun i hi => ?_
    rw [hcell i (by omega), gB_take _ _ _ (by omega)]
  exact cpNext_more q 6 at0 _ 0 0 _ _ _ (l.take 8) _ _ r w m hr (by simp; omega)
def l19 : List Int := [49, 50, 51, 52, 53, 54, 55, 56, 57]
theorem OwB.keepM {E B : Nat} {M : Nat → Prop} {w w' : World} {v : Value} {l : List Int} (h : OwB E B w v l) (k : Keep M w w') (hm : ∀ i, B ≤ i → ¬ M i) : OwB E B w' v l := by
  have hlt := World.ownsRow.lt h
  obtain ⟨h1, h2⟩ := h
  refine ⟨h1, h2.imp id ?_⟩
  rintro ⟨g, cap, cur, e1, e2, e3, e4⟩
  exact ⟨g, cap, cur, e1, e2, by rw [k.block g (by have := Array.getElem?_eq_some_iff.1 e3; exact this.1) (hm _ e2)]; exact e3, e4⟩
theorem str8 : strOfNums (l19.take 8) = ⟨#[49, 50, 51, 52, 53, 54, 55, 56]⟩ := by decide
theorem str1 : strOfNums ((l19.drop 8).take 8) = ⟨#[57]⟩ := by decide
set_option maxHeartbeats 2000000 in
theorem kFixed (w : World) : Calls Try.prog 12 #[] w fun e w' => e = .returned (.bool true) ∧ Below w.heap.size w w' := by
  have kc := fun (w : World) (C : Array Value) (n c : Nat) => Lib.run_convert_bytes_const (P := Try.prog) w 22 5 C n c Try.underlying22 Try.underlying5
  have hl : RdB (w.alloc (Obj.cells #[.int .u8 49, .int .u8 50, .int .u8 51, .int .u8 52, .int .u8 53, .int .u8 54, .int .u8 55, .int .u8 56, .int .u8 57] 5 (9, 10))) (.slice (some ⟨w.heap.size, 0, none⟩) 9 9) l19 := by
    refine RdB.cells (by decide) (by decide) (by unfold maxLen; omega) fun i hi => ?_
    rw [World.cell?, (MapKept.heap_alloc w _).1, Nat.zero_add]
    match i, hi with
    | 0, _ | 1, _ | 2, _ | 3, _ | 4, _ | 5, _ | 6, _ | 7, _ | 8, _ => rfl
  have HL := Lib.hid hl
  clear hl
  go_enter Try.func12, Try.ntmps12
  go_wp2_with fail
  refine (cpIn_row 0 (some ⟨w.heap.size, 0, none⟩) 9 l19 _ HL.out (by decide) (by decide)).mono ?_
  rintro e w1 ⟨q, O, rfl, hq, b1, st1, hO, hOq⟩
  simp at hq hO
  have z1 := b1.size
  simp at z1
  have B1 : Below w.heap.size w w1 := Below.trans (by go_grown) (b1.mono (by simp))
  have S1 := Lib.hid st1
  have ql : q < w1.heap.size := by
    obtain ⟨_, _, _, _, _, m, _⟩ := st1
    exact Blk.lt m
  clear st1 b1
  unfold ptr
  go_wp2_with fail
  refine (cpNext_in O q 0 l19 _ _ [nilS] _ S1.out).mono ?_
  rintro e w2 ⟨s2, rfl, o2, b2⟩
  obtain ⟨x2, n2, c2, rfl⟩ := o2.isSliceC
  have z2 := b2.size
  have S2 := Lib.hid (S1.out.keep (M := fun _ => False) (Below.keeps b2) (fun _ _ => id) id)
  have B2 := B1.trans (b2.mono (by omega))
  have R2 := Lib.hid o2
  have K12 : Keep (· = q) w1 w2 := Below.keeps b2
  clear o2 b2
  unfold Acc.V
  dsimp only
  go_wp2_with fail
  refine (cpTake_more O q 0 l19 _ _ [nilS] 0 false none 0 0 _ (S2.out.keep (M := fun _ => False) (Below.keeps ((Below.refl _ _).alloc (Nat.le_refl _) _)) (fun _ _ => id) id) hOq (by decide) (by decide) (by decide) (by decide)).mono ?_
  rintro e w3 ⟨rfl, st3, k3⟩
  have z3 := k3.size
  simp at z3
  have n2q : ¬ w2.heap.size = q := by omega
  have X3 := Lib.hid ((Blk.made w2 _ 30).keep k3 n2q)
  have R3 := Lib.hid ((R2.out.below ((Below.refl _ _).alloc (Nat.le_refl _) _)).keepM k3 (fun i hi e => by omega))
  have O3q : ¬ (O q ∨ ((w2.alloc (Obj.cells #[Value.int IntKind.i64 6, Value.int IntKind.i64 0, Value.int IntKind.i64 ((min l19.length 8 : Nat) : Int), Value.int IntKind.u64 0, Value.int IntKind.u64 0, Value.slice x2 n2 c2] 30)).heap.size ≤ q ∧ q < w3.heap.size)) := by
    rintro (h | ⟨h, _⟩)
    · exact hOq h
    · simp at h
      omega
  have K3 : Keep (· = q) w1 w3 := (K12.alloc _).trans k3
  have S3 := Lib.hid st3
  clear st3
  go_wp2_with fail
  refine (cpNext_in _ q (0 + 8) (l19.drop 8) _ _ [nilS] _ S3.out).mono ?_
  rintro e w4 ⟨s4, rfl, o4, b4⟩
  obtain ⟨x4, n4, c4, rfl⟩ := o4.isSliceC
  have z4 := b4.size
  have S4 := Lib.hid (S3.out.keep (M := fun _ => False) (Below.keeps b4) (fun _ _ => id) id)
  have X4 := Lib.hid (X3.out.below b4 (by omega))
  have R4 := Lib.hid (R3.out.below b4)
  have P4 := Lib.hid o4
  have K4 := K3.trans (Below.keeps b4)
  clear o4 b4
  unfold Acc.V
  dsimp only
  go_wp2_with fail
  refine (cpTake_last _ q (0 + 8) (l19.drop 8) [nilS] 0 false none 0 0 _ (S4.out.keep (M := fun _ => False) (Below.keeps ((Below.refl _ _).alloc (Nat.le_refl _) _)) (fun _ _ => id) id) O3q (by decide) (by decide) (by decide)).mono ?_
  rintro e w5 ⟨rfl, m5, k5⟩
  have z5 := k5.size
  simp at z5
  have n4q : ¬ w4.heap.size = q := by omega
  have X5 := Lib.hid ((X4.out.alloc _).keep k5 n2q)
  have Y5 := Lib.hid ((Blk.made w4 _ 30).keep k5 n4q)
  have R5 := Lib.hid ((R4.out.below ((Below.refl _ _).alloc (Nat.le_refl _) _)).keepM k5 (fun i hi e => by omega))
  have P5 := Lib.hid ((P4.out.below ((Below.refl _ _).alloc (Nat.le_refl _) _)).keepM k5 (fun i hi e => by omega))
  have K5 := (K4.alloc _).trans k5
  have M5 := Lib.hid m5
  clear m5
  go_wp2_with fail
  refine (cpNext_end q _ [nilS] _ M5.out).mono ?_
  rintro e w6 ⟨s6, rfl, o6, b6⟩
  obtain ⟨x6, n6, c6, rfl⟩ := o6.isSliceC
  have z6 := b6.size
  have X6 := X5.out.below b6 (by omega)
  have Y6 := Y5.out.below b6 (by omega)
  have p2 := X6.cell 2
  have p5 := X6.cell 5
  have q1 := Y6.cell 1
  have q5 := Y6.cell 5
  simp only [List.getElem?_toArray, List.getElem?_cons_zero, List.getElem?_cons_succ] at p2 p5 q1 q5
  have K6 := K5.trans (Below.keeps b6)
  have B6 : Below w.heap.size w w6 := B1.trans (K6.below (by omega) (by intro k h e; omega))
  have y2 : w2.heap.size < w6.heap.size := by omega
  have y4 : w4.heap.size < w6.heap.size := by omega
  have V2 := conv_rd 22 9 Try.underlying22 Try.underlying9 ((R5.out.below b6).below ((Below.refl _ _).alloc (Nat.le_refl _) (Obj.cells #[Value.int IntKind.i64 0, Value.int IntKind.i64 0, Value.int IntKind.i64 0, Value.int IntKind.u64 0, Value.int IntKind.u64 0, Value.slice x6 n6 c6] 30))).rd
  have V4 := conv_rd 22 9 Try.underlying22 Try.underlying9 ((P5.out.below b6).below ((Below.refl _ _).alloc (Nat.le_refl _) (Obj.cells #[Value.int IntKind.i64 0, Value.int IntKind.i64 0, Value.int IntKind.i64 0, Value.int IntKind.u64 0, Value.int IntKind.u64 0, Value.slice x6 n6 c6] 30))).rd
  rw [str8] at V2
  rw [str1] at V4
  unfold Acc.V
  dsimp only
  clear o6 b6
  go_wp2
  go_ret
  exact ⟨rfl, B6.alloc (by omega) _⟩
end Go.Proofs.Ythaglmlkillhdaa
