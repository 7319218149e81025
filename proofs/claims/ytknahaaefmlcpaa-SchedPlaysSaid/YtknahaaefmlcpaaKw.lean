/- Contracts of copies.In, copies.Zero; of Take at the end. Conditions: as each says. -/
import Derived.Test.YtknahaaefmlcpaaKj
import Derived.Test.YtknahaaefmlcpaaKn
namespace Go.Proofs.Ytknahaaefmlcpaa
set_option maxRecDepth 100000
open Go.RowKit
set_option linter.unusedVariables false
set_option linter.unusedSimpArgs false
def fnNone : Value := .func (.func 66) #[] #[]
def nilS : Value := .slice none 0 0
theorem none_any (w : World) : Calls Try.prog 66 #[] w fun e w' => e = .returned (.tuple #[]) ∧ w = w' := by
  go_enter Try.func66, Try.ntmps66
  go_wp2
  go_end0
  exact ⟨rfl, rfl⟩
theorem enNone (args : Array Value) (w : World) : (callFunc 66 args).run Try.prog w = .ok (.enter 66 args) w :=
  enters_of Try.func66 (by kernel_rfl) rfl args w
set_option maxHeartbeats 1000000 in
theorem cpTake_end (q : Nat) (c : Acc) (r : List Value) (v : Int) (d : Bool) (s0 : Option Addr) (sl sc : Nat) (w : World) (h : Mch w q c .nilFunc r) :
    Calls Try.prog 145 #[.pointer (some ⟨q, 0, none⟩), .agg #[.int .u64 v, .bool d, .slice s0 sl sc]] w fun e w' => e = .returned (.tuple #[]) ∧ Below w.heap.size w w' := by
  have hlt := h.lt
  have H := Lib.hid h
  clear h
  go_enter Try.func145, Try.ntmps145
  go_wp2_with fail
  go_region_with ((go_at_call 63; refine (cTake_end q c r v d s0 sl sc _ (Blk.drew (Blk.alloc H.out _))).mono ?_; rintro e w' ⟨rfl, hb⟩))
  go_wp2
  go_end0
  exact ⟨rfl, Below.trans (by go_grown) (hb.mono (by simp))⟩
set_option maxHeartbeats 1000000 in
theorem cpIn_big (at0 : Int) (s0 : Option Addr) (sl sc : Nat) (w : World) (h : 131072 < sl) :
    Calls Try.prog 29 #[.int .i64 at0, .slice s0 sl sc] w fun e w' => ∃ q, e = .returned (ptr q) ∧ w.heap.size ≤ q ∧ Below w.heap.size w w' ∧ Mch w' q accZ .nilFunc [nilS] := by
  have h' : ¬ (sl : Int) ≤ 131072 := by omega
  go_enter Try.func29, Try.ntmps29
  go_wp2
  go_ret
  exact ⟨w.heap.size, rfl, Nat.le_refl _, by go_grown, Blk.made w #[.int .i64 0, .int .i64 0, .int .i64 0, .int .u64 0, .int .u64 0, .slice none 0 0, .nilFunc, .slice none 0 0] _⟩
set_option maxHeartbeats 1000000 in
theorem cpIn_empty (at0 : Int) (s0 : Option Addr) (sc : Nat) (w : World) (h : RdB w (.slice s0 0 sc) []) :
    Calls Try.prog 29 #[.int .i64 at0, .slice s0 0 sc] w fun e w' => ∃ q, e = .returned (ptr q) ∧ w.heap.size ≤ q ∧ Below w.heap.size w w' ∧ Mch w' q accZ .nilFunc [nilS] := by
  have H := Lib.hid h
  clear h
  go_enter Try.func29, Try.ntmps29
  go_wp2_with fail
  go_region_held3 (fun w' => True) (trivial)
    (first
      | (go_at_call 53; refine (clone_any _ [] _ (RdB.below H.out (by go_grown)) (by simp)).mono ?_; rintro e w2 ⟨s, rfl, o2, b2⟩; obtain ⟨xa, xn, xc, rfl, hxn⟩ := o2.sliceOf; simp at hxn; subst hxn)
      | (go_at_call 65; refine (cIn_end _ at0 _ _ _ _ _ (fun w1 => enNone _ w1) (fun w' => Below w2.heap.size w2 w') (fun w1 b1 => (none_any w1).mono fun e w' ⟨h1, h2⟩ => ⟨h1, h2 ▸ b1⟩)).mono ?_; rintro e w3 ⟨rfl, b3⟩))
  go_wp2
  go_ret
  refine ⟨w.heap.size, rfl, Nat.le_refl _, ?_, ?_⟩
  · refine Below.trans ?_ (b3.mono ?_)
    · exact Below.trans (by go_grown) (b2.mono (by simp))
    · have := b2.size
      simp at this
      omega
  · refine Blk.below (Blk.below ((Blk.made w #[.int .i64 0, .int .i64 0, .int .i64 0, .int .u64 0, .int .u64 0, .slice none 0 0, .nilFunc, .slice none 0 0] _).drew) b2 (by simp)) b3 ?_
    have := b2.size
    simp at this
    omega
set_option maxHeartbeats 1000000 in
theorem cpIn_row (at0 : Int) (s0 : Option Addr) (sc : Nat) (l : List Int) (w : World) (h : RdB w (.slice s0 l.length sc) l) (h0 : l.length ≠ 0) (hl : l.length ≤ 131072) :
    Calls Try.prog 29 #[.int .i64 at0, .slice s0 l.length sc] w fun e w' => ∃ q O, e = .returned (ptr q) ∧ w.heap.size ≤ q ∧ Below w.heap.size w w' ∧ InSt w' O q at0 l fnNone [nilS] ∧ (∀ i, O i → w.heap.size ≤ i ∧ i < w'.heap.size) ∧ ¬ O q := by
  have H := Lib.hid h
  have hle : (l.length : Int) ≤ 131072 := by omega
  have h0' := Lib.hid h0
  clear h h0
  go_enter Try.func29, Try.ntmps29
  go_wp2_with fail
  go_region_held3 (fun w' => True) (trivial)
    (first
      | (go_at_call 53; refine (clone_any _ l _ (RdB.below H.out (by go_grown)) (by omega)).mono ?_; rintro e w2 ⟨s, rfl, o2, b2⟩; obtain ⟨g, cap, rfl, hg, hgl, hc, hm, hcell⟩ := o2.slice (Nat.pos_of_ne_zero h0'.out); have hz2 := b2.size; simp at hz2 hg)
      | (go_at_call 65; refine (cIn_st w.heap.size accZ .nilFunc [nilS] at0 g 0 cap l _ _ w2 (· = g) (Blk.below ((Blk.made w #[.int .i64 0, .int .i64 0, .int .i64 0, .int .u64 0, .int .u64 0, .slice none 0 0, .nilFunc, .slice none 0 0] _).drew) b2 (by simp)) h0'.out hl hc hm rfl (by omega) (fun i hi => by rw [Nat.zero_add]; exact hcell i hi)).mono ?_; rintro e w3 ⟨rfl, h3, k3⟩))
  go_wp2
  go_ret
  have hz3 := k3.size
  refine ⟨w.heap.size, _, rfl, Nat.le_refl _, ?_, h3, ?_, ?_⟩
  · exact (Below.trans (by go_grown) (b2.mono (by simp))).trans (k3.below (by omega) (by intro k h1 h2; omega))
  · rintro i (rfl | ⟨h1, h2⟩)
    · omega
    · omega
  · rintro (h1 | ⟨h1, h2⟩)
    · omega
    · omega
set_option maxHeartbeats 1000000 in
theorem cpZero_big (at0 n : Int) (w : World) (h : 131072 < n) :
    Calls Try.prog 30 #[.int .i64 at0, .int .i64 n] w fun e w' => ∃ q, e = .returned (ptr q) ∧ w.heap.size ≤ q ∧ Below w.heap.size w w' ∧ Mch w' q accZ .nilFunc [nilS] := by
  have h' : ¬ n ≤ 131072 := by omega
  go_enter Try.func30, Try.ntmps30
  go_wp2
  go_ret
  exact ⟨w.heap.size, rfl, Nat.le_refl _, by go_grown, Blk.made w #[.int .i64 0, .int .i64 0, .int .i64 0, .int .u64 0, .int .u64 0, .slice none 0 0, .nilFunc, .slice none 0 0] _⟩
set_option maxHeartbeats 1000000 in
theorem cpOut_none (at0 n : Int) (w : World) (h : 131072 < n ∨ n < 1) :
    Calls Try.prog 31 #[.int .i64 at0, .int .i64 n] w fun e w' => ∃ q, e = .returned (ptr q) ∧ w.heap.size ≤ q ∧ Below w.heap.size w w' ∧ Mch w' q accZ .nilFunc [nilS] := by
  by_cases h' : n ≤ 131072
  · have h1 : n < 1 := by omega
    clear h
    go_enter Try.func31, Try.ntmps31
    go_wp2
    go_ret
    refine ⟨w.heap.size, rfl, Nat.le_refl _, by go_grown, ?_⟩
    have e := Blk.made w #[.int .i64 0, .int .i64 0, .int .i64 0, .int .u64 0, .int .u64 0, .slice none 0 0, .nilFunc, .slice none 0 0] 149
    exact ((e.alloc _).alloc _).alloc _
  · clear h
    go_enter Try.func31, Try.ntmps31
    go_wp2
    go_ret
    exact ⟨w.heap.size, rfl, Nat.le_refl _, by go_grown, Blk.made w #[.int .i64 0, .int .i64 0, .int .i64 0, .int .u64 0, .int .u64 0, .slice none 0 0, .nilFunc, .slice none 0 0] _⟩
end Go.Proofs.Ytknahaaefmlcpaa
