/- A nil put; puts as a family of machines. Conditions: as each says. One machine alone in a world: New, Robin. Conditions: as each says. -/
import Derived.Test.YtggjhleomocojaaGreatPi
import Derived.Test.YtggjhleomocojaaGreatSj
section
namespace Go.Proofs.YtggjhleomocojaaGreat
set_option maxRecDepth 100000
open Go.RowKit
set_option linter.unusedVariables false
set_option linter.unusedSimpArgs false
variable {q : Nat} {m : PutM}
set_option maxHeartbeats 2000000 in
theorem pTake_end {O : Nat → Prop} {bv : Value} (x : AN) (s0 : Option Addr) (sl sc : Nat) (w : World) (h : PutI w O q m bv) (hl : m.live = false) :
  Calls Tryz.prog 215 #[.pointer (some ⟨q, 0, none⟩), .agg #[.int .u64 x.v, .bool x.d, .slice s0 sl sc]] w fun e w' => e = .returned (.tuple #[]) ∧ Below w.heap.size w w' := by
 have hm : ∃ c, Mch w q c .nilFunc (m.rest bv) := by
  have ha := h.at_
  obtain ⟨c, pc, hd, pos, cl, e⟩ := m
  cases pc with
  | done => obtain ⟨t, hm, rfl⟩ := ha; exact ⟨_, hm⟩
  | _ => cases hl
 obtain ⟨c, hm⟩ := hm
 have hlt : q < w.heap.size := Blk.lt hm
 have HM := Lib.hid hm
 clear h hm
 go_enter Tryz.func215, Tryz.ntmps215
 go_wp2_with fail
 go_region_held3 (fun w' => w'.cell? ⟨w.heap.size, 0, none⟩ = some (.int .u64 x.v) ∧ w'.cell? ⟨w.heap.size, 1, none⟩ = some (.bool x.d) ∧ w'.cell? ⟨w.heap.size, 2, none⟩ = some (.slice s0 sl sc)) (first | go_keep | trivial)
  (first
   | (go_at_call 192; refine (cTake_end q c _ x.v x.d s0 sl sc _ (Blk.below HM.out (by go_grown) hlt)).mono ?_; rintro e w2 ⟨rfl, b2⟩; have hc := fun o => b2.cell (p := ⟨w.heap.size, o, none⟩) (by simp)))
 all_goals
  clear hc
  go_wp2
  go_end0
  refine ⟨rfl, ?_⟩
  exact (bel_drewN 1 ((Below.refl w.heap.size w).alloc (Nat.le_refl _) _)).trans (b2.mono (by simp))
def putMac : Mac := ⟨PutM, PutM.live, PutM.want, PutM.step⟩
def putMacQ : Mac := ⟨Nat × PutM, fun s => s.2.live, fun s => s.2.want, fun s x => (s.1, s.2.step x)⟩
theorem pM_next (b : Nat) (w : World) : (method (Tryz.prog.types.size + Made.depth) 97 (.pointer (some ⟨b, 0, none⟩)) "Next").run Tryz.prog w = .ok (214, .pointer (some ⟨b, 0, none⟩)) w := by kernel_rfl
theorem pM_take (b : Nat) (w : World) : (method (Tryz.prog.types.size + Made.depth) 97 (.pointer (some ⟨b, 0, none⟩)) "Take").run Tryz.prog w = .ok (215, .pointer (some ⟨b, 0, none⟩)) w := by kernel_rfl
theorem enPN (args : Array Value) (w : World) : (callFunc 214 args).run Tryz.prog w = .ok (.enter 214 args) w :=
 enters_of Tryz.func214 (by kernel_rfl) rfl args w
theorem enPT (args : Array Value) (w : World) : (callFunc 215 args).run Tryz.prog w = .ok (.enter 215 args) w :=
 enters_of Tryz.func215 (by kernel_rfl) rfl args w
def PutF (w : World) (F : Nat → Prop) (q : Nat) (m : PutM) : Prop := F q ∧ (∀ i, F i → i < w.heap.size) ∧ ∃ O bv, (∀ i, O i → F i ∧ i ≠ q) ∧ PutI w O q m bv
theorem PutF.mono {w : World} {F F' : Nat → Prop} (h : PutF w F q m) (h1 : ∀ i, F i → F' i) (h2 : ∀ i, F' i → i < w.heap.size) : PutF w F' q m := by
 obtain ⟨a1, a2, O, bv, hO, hI⟩ := h
 exact ⟨h1 q a1, h2, O, bv, fun i hi => ⟨h1 i (hO i hi).1, (hO i hi).2⟩, hI⟩
theorem PutF.keep {w w' : World} {F K : Nat → Prop} (h : PutF w F q m) (k : Keep K w w') (hd : ∀ i, F i → ¬ K i) : PutF w' F q m := by
 obtain ⟨a1, a2, O, bv, hO, hI⟩ := h
 exact ⟨a1, fun i hi => Nat.lt_of_lt_of_le (a2 i hi) k.size, O, bv, hO, hI.keep k (fun i hi => hd i (hO i hi).1) (hd q a1)⟩
theorem PutF.below {w w' : World} {F : Nat → Prop} (h : PutF w F q m) (b : Below w.heap.size w w') : PutF w' F q m := h.keep (K := fun _ => False) (Below.keeps b) (fun _ _ => id)
theorem pNew_f (b s typ : Int) (s0 : Option Addr) (sl sc : Nat) (l : List Int) (w : World) (hr : RdB w (.slice s0 sl sc) l) (hl : l.length ≤ 70368744177664) (hB : IsB l) (hb0 : -9223372036854775808 ≤ b) (hb1 : b ≤ 9223372036854775807) (hs0 : -9223372036854775808 ≤ s) (hs1 : s ≤ 9223372036854775807) :
  Calls Tryz.prog 32 #[.agg #[.int .i64 b, .int .i64 s], .int .i32 typ, .slice s0 sl sc] w fun e w' => ∃ q, e = .returned (.pointer (some ⟨q, 0, none⟩)) ∧ w.heap.size ≤ q ∧ PutF w' (fun k => w.heap.size ≤ k ∧ k < w'.heap.size) q (PutC.init ⟨b, s, typ, l⟩) ∧ Below w.heap.size w w' := by
 refine (pNew_any b s typ s0 sl sc l w hr hl hB hb0 hb1 hs0 hs1).mono ?_
 rintro e w' ⟨q, bv, rfl, h1, h2, h3, h4⟩
 exact ⟨q, rfl, h1, ⟨⟨h1, h2⟩, fun i hi => hi.2, _, bv, fun i hi => ⟨⟨hi.1, hi.2.1⟩, hi.2.2⟩, h3⟩, h4⟩
theorem pTake_f {F : Nat → Prop} (x : AN) (s0 : Option Addr) (sl sc : Nat) (w : World) (h : PutF w F q m) (hx : inU x.v) :
  Calls Tryz.prog 215 #[.pointer (some ⟨q, 0, none⟩), .agg #[.int .u64 x.v, .bool x.d, .slice s0 sl sc]] w fun e w' => e = .returned (.tuple #[]) ∧ ∃ F', PutF w' F' q (m.step x) ∧ (∀ i, F' i → F i ∨ w.heap.size ≤ i) ∧ Keep F w w' := by
 by_cases hl : m.live = true
 ·obtain ⟨a1, a2, O, bv, hO, hI⟩ := h
  refine (pTake_any x s0 sl sc w hI hl hx).mono ?_
  rintro e w' ⟨rfl, hI', k⟩
  have z := k.size
  have hq := a2 q a1
  refine ⟨rfl, fun i => F i ∨ (w.heap.size ≤ i ∧ i < w'.heap.size), ⟨.inl a1, fun i hi => ?_, _, bv, fun i hi => ?_, hI'⟩, fun i hi => hi.imp id (fun h => h.1), k.mono (fun i _ e => e ▸ a1)⟩
  ·rcases hi with hi | hi
   ·have := a2 i hi
    omega
   ·exact hi.2
  ·rcases hi with hi | hi
   ·exact ⟨.inl (hO i hi).1, (hO i hi).2⟩
   ·exact ⟨.inr hi, by omega⟩
 ·have hl' : m.live = false := by simpa using hl
  have hs : m.step x = m := by
   obtain ⟨c, pc, hd, pos, cl, e⟩ := m
   cases pc with
   | done => rfl
   | _ => cases hl'
  rw [hs]
  have h0 := h
  obtain ⟨a1, a2, O, bv, hO, hI⟩ := h
  refine (pTake_end x s0 sl sc w hI hl').mono ?_
  rintro e w' ⟨rfl, b⟩
  exact ⟨rfl, F, h0.below b, fun i hi => .inl hi, Below.keeps b⟩
def putFam : Fam where
 M := putMacQ
 inv := fun w F q s => q = s.1 ∧ PutF w F q s.2
 ty := fun _ => 97
 fn := fun _ => 214
 ft := fun _ => 215
 mn := fun _ b w => pM_next b w
 mt := fun _ b w => pM_take b w
 en := fun _ args w => enPN args w
 et := fun _ args w => enPT args w
 ts := fun _ _ => rfl
 dom := fun h => ⟨h.2.1, h.2.2.1⟩
 mono := fun h h1 h2 => ⟨h.1, h.2.mono h1 h2⟩
 keep := fun h k hd => ⟨h.1, h.2.keep k hd⟩
 wf := fun {w F q s} h => by
  obtain ⟨_, _, _, O, bv, hO, hI⟩ := h
  exact hI.fine.wf
 next := fun {w F q s} h => by
  obtain ⟨_, _, _, O, bv, hO, hI⟩ := h
  exact pNext_any w hI
 take := fun {w F q s x s0 sl sc} h hl hx hr => by
  refine (pTake_f x s0 sl sc w h.2 ⟨hx.v0, hx.v1⟩).mono ?_
  rintro e w' ⟨rfl, F', h1, h2, h3⟩
  exact ⟨rfl, F', ⟨h.1, h1⟩, h2, h3⟩
theorem mNew_at (size : Int) (k : Nat) (w : World) (hs : size = 8 * (k : Int)) (h1 : 1 ≤ k) (h2 : k ≤ 16384) :
  Calls Tryz.prog 9 #[.int .i64 size] w fun e w' => ∃ p c, e = .returned (.tuple #[.pointer (some ⟨p, 0, none⟩), .int .i64 0]) ∧ Buf w' p c 0 (List.replicate (8 * k) 0) ∧ w.heap.size ≤ p ∧ w.heap.size ≤ c ∧ Below w.heap.size w w' := by
 subst hs
 exact mNew_any k w h1 h2
end Go.Proofs.YtggjhleomocojaaGreat
end
