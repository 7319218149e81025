/- A machine that sends, as one of a family. Conditions: as each says. -/
import Derived.Test.YtggjhleomocojaaGreatNb
import Derived.Test.YtggjhleomocojaaGreatDd
import Derived.Deep.LoopGhost
import Derived.Test.YtggjhleomocojaaGreatUm
import Derived.Test.YtggjhleomocojaaGreatQb
namespace Go.Proofs.YtggjhleomocojaaGreat
set_option maxRecDepth 100000
open Go.RowKit
set_option linter.unusedVariables false
set_option linter.unusedSimpArgs false
def SenF (w : World) (F : Nat → Prop) (q : Nat) (m : SenM) : Prop := F q ∧ (∀ i, F i → i < w.heap.size) ∧ ∃ O bv, (∀ i, O i → F i ∧ i ≠ q) ∧ SenI w O q m bv
variable {q : Nat} {m : SenM}
theorem SenF.mono {w : World} {F F' : Nat → Prop} (h : SenF w F q m) (h1 : ∀ i, F i → F' i) (h2 : ∀ i, F' i → i < w.heap.size) : SenF w F' q m := by
 obtain ⟨a1, a2, O, bv, hO, hI⟩ := h
 exact ⟨h1 q a1, h2, O, bv, fun i hi => ⟨h1 i (hO i hi).1, (hO i hi).2⟩, hI⟩
theorem SenF.keep {w w' : World} {F K : Nat → Prop} (h : SenF w F q m) (k : Keep K w w') (hd : ∀ i, F i → ¬ K i) : SenF w' F q m := by
 obtain ⟨a1, a2, O, bv, hO, hI⟩ := h
 exact ⟨a1, fun i hi => Nat.lt_of_lt_of_le (a2 i hi) k.size, O, bv, hO, hI.keep k (fun i hi => hd i (hO i hi).1) (hd q a1)⟩
theorem SenF.below {w w' : World} {F : Nat → Prop} (h : SenF w F q m) (b : Below w.heap.size w w') : SenF w' F q m := h.keep (K := fun _ => False) (Below.keeps b) (fun _ _ => id)
theorem sNew_f (b s typ : Int) (s0 : Option Addr) (sl sc : Nat) (l : List Int) (w : World) (hr : RdB w (.slice s0 sl sc) l) (hl : l.length ≤ 70368744177664) (hB : IsB l) (hb0 : -9223372036854775808 ≤ b) (hb1 : b ≤ 9223372036854775807) (hs0 : -9223372036854775808 ≤ s) (hs1 : s ≤ 9223372036854775807) :
  Calls Tryz.prog 10 #[.agg #[.int .i64 b, .int .i64 s], .int .i32 typ, .slice s0 sl sc] w fun e w' => ∃ q, e = .returned (.pointer (some ⟨q, 0, none⟩)) ∧ w.heap.size ≤ q ∧ SenF w' (fun k => w.heap.size ≤ k ∧ k < w'.heap.size) q (SenM.init ⟨b, s, typ, l⟩) ∧ Below w.heap.size w w' := by
 refine (sNew_any b s typ s0 sl sc l w hr hl hB hb0 hb1 hs0 hs1).mono ?_
 rintro e w' ⟨q, bv, rfl, h1, h2, h3, h4⟩
 exact ⟨q, rfl, h1, ⟨⟨h1, h2⟩, fun i hi => hi.2, _, bv, fun i hi => ⟨⟨hi.1, hi.2.1⟩, hi.2.2⟩, h3⟩, h4⟩
theorem sTake_f {F : Nat → Prop} (x : AN) (s0 : Option Addr) (sl sc : Nat) (w : World) (h : SenF w F q m) (hl : m.live = true) (hx : inU x.v) :
  Calls Tryz.prog 191 #[.pointer (some ⟨q, 0, none⟩), .agg #[.int .u64 x.v, .bool x.d, .slice s0 sl sc]] w fun e w' => e = .returned (.tuple #[]) ∧ ∃ F', SenF w' F' q (m.step x) ∧ (∀ i, F' i → F i ∨ w.heap.size ≤ i) ∧ Keep F w w' := by
 obtain ⟨a1, a2, O, bv, hO, hI⟩ := h
 refine (sTake_any x s0 sl sc w hI hl hx).mono ?_
 rintro e w' ⟨rfl, hI', k⟩
 have z := k.size
 have hq := a2 q a1
 refine ⟨rfl, fun i => F i ∨ (w.heap.size ≤ i ∧ i < w'.heap.size), ⟨.inl a1, fun i hi => ?_, _, bv, fun i hi => ?_, hI'⟩, fun i hi => hi.imp id (fun h => h.1), k.mono (fun i _ e => e ▸ a1)⟩
 ·rcases hi with hi | hi
  ·have := a2 i hi
   omega
  ·exact hi.2
 ·rcases hi with hi | hi
  ·exact ⟨.inl (hO i hi).1, (hO i hi).2⟩
  ·exact ⟨.inr hi, by omega⟩
theorem sM_next (b : Nat) (w : World) : (method (Tryz.prog.types.size + Made.depth) 35 (.pointer (some ⟨b, 0, none⟩)) "Next").run Tryz.prog w = .ok (87, .pointer (some ⟨b, 0, none⟩)) w := by kernel_rfl
theorem sM_take (b : Nat) (w : World) : (method (Tryz.prog.types.size + Made.depth) 35 (.pointer (some ⟨b, 0, none⟩)) "Take").run Tryz.prog w = .ok (191, .pointer (some ⟨b, 0, none⟩)) w := by kernel_rfl
def senFam : Fam where
 M := senMac
 inv := fun w F q s => SenF w F q s
 ty := fun _ => 35
 fn := fun _ => 87
 ft := fun _ => 191
 mn := fun _ b w => sM_next b w
 mt := fun _ b w => sM_take b w
 en := fun _ args w => enters_of Tryz.func87 (by kernel_rfl) rfl args w
 et := fun _ args w => enters_of Tryz.func191 (by kernel_rfl) rfl args w
 ts := fun _ _ => rfl
 dom := fun h => ⟨h.1, h.2.1⟩
 mono := fun h h1 h2 => SenF.mono h h1 h2
 keep := fun h k hd => SenF.keep h k hd
 wf := fun {w F q s} h => by
  obtain ⟨_, _, O, bv, hO, hI⟩ := h
  exact hI.fine.wf
 next := fun {w F q s} h => by
  obtain ⟨_, _, O, bv, hO, hI⟩ := h
  exact sNext_any w hI
 take := fun {w F q s x s0 sl sc} h hl hx hr => by
  refine (sTake_f x s0 sl sc w h hl ⟨hx.v0, hx.v1⟩).mono ?_
  rintro e w' ⟨rfl, F', h1, h2, h3⟩
  exact ⟨rfl, F', h1, h2, h3⟩
end Go.Proofs.YtggjhleomocojaaGreat
namespace Go.Proofs.YtggjhleomocojaaGreat
set_option maxRecDepth 100000
open Go.RowKit
set_option linter.unusedVariables false
set_option linter.unusedSimpArgs false
structure CasT where
 b : Int
 s : Int
 left : List (Int × List Int)
 places : List Int
 done : List Int
def CasT.mo (t : CasT) : Option SenM × CasT := match t.left with
 | [] => (none, t)
 | x :: r => (some (SenM.init ⟨t.b, t.s, x.1, x.2⟩), { t with left := r })
def CasT.en (t : CasT) (m : SenM) : CasT := { t with done := t.done ++ [m.e], places := if m.e = 0 then t.places ++ [m.rv] else t.places }
def casC : ChP senMac where
 τ := CasT
 mo := fun t => t.mo
 en := fun m t => t.en m
 fu := fun t => t.left.length + 2
 ok := fun _ => True
variable {t : CasT}
theorem cas_mo0 (h : t.left = []) : t.mo = (none, t) := by unfold CasT.mo; rw [h]
theorem cas_mo1 {x : Int × List Int} {r : List (Int × List Int)} (h : t.left = x :: r) : t.mo = (some (SenM.init ⟨t.b, t.s, x.1, x.2⟩), { t with left := r }) := by unfold CasT.mo; rw [h]
def casL (n : Nat) (cur : Option SenM) (t : CasT) : Option SenM × CasT := match cur with
 | none => casC.settle n t.mo
 | some m => casC.settle n ((some m, t) : Option SenM × CasT)
theorem casL_live (n : Nat) {m : SenM} (t : CasT) (h : m.live = true) : casL n (some m) t = (some m, t) := by
 unfold casL
 cases n with
 | zero => rfl
 | succ n => exact if_pos h
theorem casL_dead (n : Nat) {m : SenM} (t : CasT) (h : m.live = false) : casL (n + 1) (some m) t = casL n none (t.en m) := by
 unfold casL
 exact if_neg (by show ¬ m.live = true; rw [h]; decide)
theorem casL_nil (n : Nat) {t : CasT} (h : t.left = []) : casL n none t = (none, t) := by
 unfold casL
 rw [cas_mo0 h]
 cases n <;> rfl
theorem casL_cons (n : Nat) {t : CasT} {x : Int × List Int} {r : List (Int × List Int)} (h : t.left = x :: r) : casL n none t = casL n (some (SenM.init ⟨t.b, t.s, x.1, x.2⟩)) { t with left := r } := by
 unfold casL
 rw [cas_mo1 h]
structure CasD (w : World) (L : Nat → Prop) (t : CasT) (lv pv dv : Value) : Prop where
 rl : RdMs w L lv t.left
 op : w.ownsRow 0 2 1 pv t.places.length (t.places.map (.int .i64))
 od : w.ownsRow 0 28 1 dv t.done.length (t.done.map (.int .i64))
 nd : ∀ i, dv.ownBlock = some i → ¬ L i
 np : ∀ i, pv.ownBlock = some i → ¬ L i
 ll : ∀ i, L i → i < w.heap.size
 ib : ∀ x ∈ t.left, IsB x.2 ∧ x.2.length ≤ 70368744177664
 bb : -9223372036854775808 ≤ t.b ∧ t.b ≤ 9223372036854775807
 bs : -9223372036854775808 ≤ t.s ∧ t.s ≤ 9223372036854775807
 sm : t.done.length + t.left.length ≤ 1000000 ∧ t.places.length ≤ t.done.length
theorem CasD.keep {w w' : World} {L K : Nat → Prop} {lv pv dv : Value} (h : CasD w L t lv pv dv) (k : Keep K w w') (h1 : ∀ i, L i → ¬ K i) (h2 : ∀ i, dv.ownBlock = some i → ¬ K i) (h3 : ∀ i, pv.ownBlock = some i → ¬ K i) : CasD w' L t lv pv dv :=
 ⟨h.rl.keep k h1, ownsRow_keep h.op k h3, ownsRow_keep h.od k h2, h.nd, h.np, fun i hi => Nat.lt_of_lt_of_le (h.ll i hi) k.size, h.ib, h.bb, h.bs, h.sm⟩
def casV (nv : Value) (t : CasT) (lv pv dv : Value) : List Value := [.int .i64 t.b, .int .i64 t.s, lv, nv, pv, dv]
def CasN (w : World) (F1 : Nat → Prop) (nv : Value) (cur : Option SenM) : Prop := match cur with
 | none => nv = .pointer none
 | some m => ∃ p, nv = ptr p ∧ SenF w F1 p m
variable {cur : Option SenM}
theorem CasN.keep {w w' : World} {F1 K : Nat → Prop} {nv : Value} (h : CasN w F1 nv cur) (k : Keep K w w') (hd : ∀ i, F1 i → ¬ K i) : CasN w' F1 nv cur := by
 cases cur with
 | none => exact h
 | some m =>
  obtain ⟨p, e, h⟩ := h
  exact ⟨p, e, h.keep k hd⟩
structure CasB (w0 : World) (O0 : Nat → Prop) (w : World) (q : Nat) (L F1 : Nat → Prop) (cur : Option SenM) (t : CasT) (nv lv pv dv : Value) : Prop where
 k : Keep O0 w0 w
 b : Blk w q (casV nv t lv pv dv)
 d : CasD w L t lv pv dv
 c : CasN w F1 nv cur
 nq : ¬ L q ∧ ¬ F1 q
 qd : dv.ownBlock ≠ some q ∧ pv.ownBlock ≠ some q
 f1 : ∀ i, F1 i → i < w.heap.size ∧ ¬ L i ∧ dv.ownBlock ≠ some i ∧ pv.ownBlock ≠ some i
 o : ∀ i, (i = q ∨ L i ∨ dv.ownBlock = some i ∨ pv.ownBlock = some i ∨ F1 i) → O0 i ∨ w0.heap.size ≤ i
variable {O0 : Nat → Prop} {q : Nat} {L F1 : Nat → Prop}
theorem CasB.below {w0 w w' : World} {nv lv pv dv : Value} (h : CasB w0 O0 w q L F1 cur t nv lv pv dv) (b : Below w.heap.size w w') : CasB w0 O0 w' q L F1 cur t nv lv pv dv :=
 have k : Keep (fun _ => False) w w' := Below.keeps b
 ⟨h.k.trans (Below.keeps b), h.b.below b h.b.lt, h.d.keep k (fun _ _ => id) (fun _ _ => id) (fun _ _ => id), h.c.keep k (fun _ _ => id), h.nq, h.qd, fun i hi => ⟨Nat.lt_of_lt_of_le (h.f1 i hi).1 b.size, (h.f1 i hi).2⟩, h.o⟩
theorem CasB.set {w0 w : World} {L F1 F1' : Nat → Prop} {cur cur' : Option SenM} {t t' : CasT} {nv nv' lv lv' pv dv : Value} (h : CasB w0 O0 w q L F1 cur t nv lv pv dv) (i : Nat) (v : Value) (hv : (casV nv t lv pv dv).set i v = casV nv' t' lv' pv dv)
  (hd : CasD w L t' lv' pv dv) (hc : CasN w F1' nv' cur') (h1 : ¬ F1' q) (h2 : ∀ i, F1' i → i < w.heap.size ∧ ¬ L i ∧ dv.ownBlock ≠ some i ∧ pv.ownBlock ≠ some i) (h3 : ∀ i, F1' i → O0 i ∨ w0.heap.size ≤ i) : CasB w0 O0 (w.setCell ⟨q, i, none⟩ v) q L F1' cur' t' nv' lv' pv dv := by
 have ks : Keep (fun i => i = q) w (w.setCell ⟨q, i, none⟩ v) := (Keep.refl (fun i => i = q) w).setCell (p := ⟨q, i, none⟩) (.inl rfl) _
 have hz := ks.size
 refine ⟨h.k.then ks (fun i hi e => ?_), hv ▸ h.b.set i v, hd.keep ks (fun i hi e => h.nq.1 (e ▸ hi)) (fun i hi e => h.qd.1 (e ▸ hi)) (fun i hi e => h.qd.2 (e ▸ hi)), hc.keep ks (fun i hi e => h1 (e ▸ hi)), ⟨h.nq.1, h1⟩, h.qd, fun i hi => ⟨Nat.lt_of_lt_of_le (h2 i hi).1 hz, (h2 i hi).2⟩, fun i hi => ?_⟩
 ·rcases h.o i (.inl e) with h9 | h9
  ·exact h9
  ·omega
 ·rcases hi with hi | hi | hi | hi | hi
  ·exact h.o i (.inl hi)
  ·exact h.o i (.inr (.inl hi))
  ·exact h.o i (.inr (.inr (.inl hi)))
  ·exact h.o i (.inr (.inr (.inr (.inl hi))))
  ·exact h3 i hi
theorem CasB.pushD {w0 w w4 : World} {nv lv pv dv v4 : Value} (h : CasB w0 O0 w q L F1 cur t nv lv pv dv) (e : Int) (hs : t.done.length + 1 + t.left.length ≤ 1000000)
  (k : Keep (fun i => dv.ownBlock = some i) w w4) (o : w4.ownsRow 0 28 1 v4 (t.done.length + 1) (t.done.map (.int .i64) ++ [.int .i64 e])) (ho : v4.ownBlock = dv.ownBlock ∨ ∃ i, v4.ownBlock = some i ∧ w.heap.size ≤ i) :
  CasB w0 O0 (w4.setCell ⟨q, 5, none⟩ v4) q L F1 cur { t with done := t.done ++ [e] } nv lv pv v4 := by
 have hq := h.b.lt
 have hnp : ∀ i, pv.ownBlock = some i → ¬ dv.ownBlock = some i := fun i hi => own_neD h.d.op h.d.od (by decide) hi
 have hob : ∀ i, i < w.heap.size → v4.ownBlock = some i → dv.ownBlock = some i := fun i hi hv => by
  rcases ho with e | ⟨j, e, hj⟩
  ·exact e ▸ hv
  ·rw [e] at hv
   cases hv
   omega
 have hoo : ∀ i, v4.ownBlock = some i → O0 i ∨ w0.heap.size ≤ i := fun i hv => by
  rcases ho with e | ⟨j, e, hj⟩
  ·exact h.o i (.inr (.inr (.inl (e ▸ hv))))
  ·rw [e] at hv
   cases hv
   exact .inr (Nat.le_trans h.k.size hj)
 have ks : Keep (fun i => i = q) w4 (w4.setCell ⟨q, 5, none⟩ v4) := (Keep.refl (fun i => i = q) w4).setCell (p := ⟨q, 5, none⟩) (.inl rfl) _
 have hq4 : v4.ownBlock ≠ some q := fun e => h.qd.1 (hob q hq e)
 have hL : ∀ i, L i → ¬ v4.ownBlock = some i := fun i hi e => h.d.nd i (hob i (h.d.ll i hi) e) hi
 refine ⟨(h.k.then k (fun i hi e => ?_)).then ks (fun i hi e => ?_), (h.b.keep k h.qd.1).set 5 v4, ?_, (h.c.keep k (fun i hi e => (h.f1 i hi).2.2.1 e)).keep ks (fun i hi e => h.nq.2 (e ▸ hi)), h.nq, ⟨hq4, h.qd.2⟩, fun i hi => ⟨Nat.lt_of_lt_of_le (h.f1 i hi).1 (Nat.le_trans k.size ks.size), (h.f1 i hi).2.1, fun e => (h.f1 i hi).2.2.1 (hob i (h.f1 i hi).1 e), (h.f1 i hi).2.2.2⟩, fun i hi => ?_⟩
 ·rcases h.o i (.inr (.inr (.inl e))) with h9 | h9
  ·exact h9
  ·omega
 ·rcases h.o i (.inl e) with h9 | h9
  ·exact h9
  ·omega
 ·refine ⟨(h.d.rl.keep k (fun i hi e => h.d.nd i e hi)).keep ks (fun i hi e => h.nq.1 (e ▸ hi)), ownsRow_keep (ownsRow_keep h.d.op k hnp) ks (fun i hi e => h.qd.2 (e ▸ hi)), ?_, fun i e hi => hL i hi e, h.d.np, fun i hi => Nat.lt_of_lt_of_le (h.d.ll i hi) (Nat.le_trans k.size ks.size), h.d.ib, h.d.bb, h.d.bs, ⟨by simp only [List.length_append, List.length_singleton]; exact hs, by have := h.d.sm.2; simp only [List.length_append, List.length_singleton]; omega⟩⟩
  have := ownsRow_keep o ks (fun i hi e => hq4 (e ▸ hi))
  simpa [List.length_append] using this
 ·rcases hi with hi | hi | hi | hi | hi
  ·exact h.o i (.inl hi)
  ·exact h.o i (.inr (.inl hi))
  ·exact hoo i hi
  ·exact h.o i (.inr (.inr (.inr (.inl hi))))
  ·exact h.o i (.inr (.inr (.inr (.inr hi))))
theorem CasB.pushP {w0 w w4 : World} {nv lv pv dv v4 : Value} (h : CasB w0 O0 w q L F1 cur t nv lv pv dv) (e : Int) (hs : t.places.length < t.done.length)
  (k : Keep (fun i => pv.ownBlock = some i) w w4) (o : w4.ownsRow 0 2 1 v4 (t.places.length + 1) (t.places.map (.int .i64) ++ [.int .i64 e])) (ho : v4.ownBlock = pv.ownBlock ∨ ∃ i, v4.ownBlock = some i ∧ w.heap.size ≤ i) :
  CasB w0 O0 (w4.setCell ⟨q, 4, none⟩ v4) q L F1 cur { t with places := t.places ++ [e] } nv lv v4 dv := by
 have hq := h.b.lt
 have hnp : ∀ i, dv.ownBlock = some i → ¬ pv.ownBlock = some i := fun i hi => own_neD h.d.od h.d.op (by decide) hi
 have hob : ∀ i, i < w.heap.size → v4.ownBlock = some i → pv.ownBlock = some i := fun i hi hv => by
  rcases ho with e | ⟨j, e, hj⟩
  ·exact e ▸ hv
  ·rw [e] at hv
   cases hv
   omega
 have hoo : ∀ i, v4.ownBlock = some i → O0 i ∨ w0.heap.size ≤ i := fun i hv => by
  rcases ho with e | ⟨j, e, hj⟩
  ·exact h.o i (.inr (.inr (.inr (.inl (e ▸ hv)))))
  ·rw [e] at hv
   cases hv
   exact .inr (Nat.le_trans h.k.size hj)
 have ks : Keep (fun i => i = q) w4 (w4.setCell ⟨q, 4, none⟩ v4) := (Keep.refl (fun i => i = q) w4).setCell (p := ⟨q, 4, none⟩) (.inl rfl) _
 have hq4 : v4.ownBlock ≠ some q := fun e => h.qd.2 (hob q hq e)
 have hL : ∀ i, L i → ¬ v4.ownBlock = some i := fun i hi e => h.d.np i (hob i (h.d.ll i hi) e) hi
 refine ⟨(h.k.then k (fun i hi e => ?_)).then ks (fun i hi e => ?_), (h.b.keep k h.qd.2).set 4 v4, ?_, (h.c.keep k (fun i hi e => (h.f1 i hi).2.2.2 e)).keep ks (fun i hi e => h.nq.2 (e ▸ hi)), h.nq, ⟨h.qd.1, hq4⟩, fun i hi => ⟨Nat.lt_of_lt_of_le (h.f1 i hi).1 (Nat.le_trans k.size ks.size), (h.f1 i hi).2.1, (h.f1 i hi).2.2.1, fun e => (h.f1 i hi).2.2.2 (hob i (h.f1 i hi).1 e)⟩, fun i hi => ?_⟩
 ·rcases h.o i (.inr (.inr (.inr (.inl e)))) with h9 | h9
  ·exact h9
  ·omega
 ·rcases h.o i (.inl e) with h9 | h9
  ·exact h9
  ·omega
 ·refine ⟨(h.d.rl.keep k (fun i hi e => h.d.np i e hi)).keep ks (fun i hi e => h.nq.1 (e ▸ hi)), ?_, ownsRow_keep (ownsRow_keep h.d.od k hnp) ks (fun i hi e => h.qd.1 (e ▸ hi)), h.d.nd, fun i e hi => hL i hi e, fun i hi => Nat.lt_of_lt_of_le (h.d.ll i hi) (Nat.le_trans k.size ks.size), h.d.ib, h.d.bb, h.d.bs, ⟨h.d.sm.1, by simp only [List.length_append, List.length_singleton]; omega⟩⟩
  have := ownsRow_keep o ks (fun i hi e => hq4 (e ▸ hi))
  simpa [List.length_append] using this
 ·rcases hi with hi | hi | hi | hi | hi
  ·exact h.o i (.inl hi)
  ·exact h.o i (.inr (.inl hi))
  ·exact h.o i (.inr (.inr (.inl hi)))
  ·exact hoo i hi
  ·exact h.o i (.inr (.inr (.inr (.inr hi))))
end Go.Proofs.YtggjhleomocojaaGreat
namespace Go.Proofs.YtggjhleomocojaaGreat
open Go.RowKit
set_option linter.unusedVariables false
set_option linter.unusedSimpArgs false
variable {M : Mac}
theorem Local.mono {Lc : M.σ → Prop} {lo hi lo' hi' : Nat} (h : Local M Lc lo hi) (h1 : lo' ≤ lo) (h2 : hi ≤ hi') : Local M Lc lo' hi' := ⟨h.wf, fun s N hs he => by obtain ⟨a, b, c⟩ := h.at_ s N hs he; exact ⟨a, by omega, by omega⟩, h.step⟩
theorem Local.no (M : Mac) (lo hi : Nat) : Local M (fun _ => False) lo hi := ⟨fun _ h => h.elim, fun _ _ h => h.elim, fun _ _ h => h.elim⟩
theorem inU_0 : inU 0 := ⟨by show (0 : Int) ≤ 0; decide, by show (0 : Int) ≤ 18446744073709551615; decide⟩
variable {B S : Nat}
theorem putInit_lc {x : Int × List Int} (hb : IsB x.2) : PutM.lc B S (PutC.init ⟨B, S, x.1, x.2⟩) := by
 unfold PutC.init
 by_cases h : (PutC.mk B S x.1 x.2).ok = true
 ·rw [if_pos h]
  exact ⟨⟨hb, fun _ => h, inU_0, trivial⟩, rfl, rfl, trivial⟩
 ·rw [if_neg h]
  exact ⟨⟨hb, fun e => (by cases e), inU_0, trivial⟩, rfl, rfl, trivial⟩
theorem senInit_lc {x : Int × List Int} (hb : IsB x.2) : SenM.lc B S (SenM.init ⟨B, S, x.1, x.2⟩) := by
 unfold SenM.init
 by_cases h : (PutC.mk B S x.1 x.2).ok = true
 ·rw [if_pos h]
  exact ⟨⟨hb, fun _ => h, inU_0, trivial⟩, rfl, rfl, trivial⟩
 ·rw [if_neg h]
  exact ⟨⟨hb, fun e => (by cases e), inU_0, trivial⟩, rfl, rfl, trivial⟩
theorem getInit_lc {n : Int} : GetM.lc B S (GetC.init ⟨B, S, n⟩) := by
 by_cases h : (GetC.mk B S n).ok = true
 ·have : GetC.init ⟨B, S, n⟩ = ⟨⟨B, S, n⟩, .hd0, 0, 0, 0, [], false, 10⟩ := by unfold GetC.init; rw [if_pos h, if_pos h]
  rw [this]
  exact ⟨⟨fun _ => h, ⟨rfl, rfl⟩, by show (0 : Nat) ≤ 1024; decide, fun x hx => (List.not_mem_nil hx).elim⟩, rfl, rfl, trivial⟩
 ·have : GetC.init ⟨B, S, n⟩ = ⟨⟨B, S, n⟩, .done, 0, 0, 0, [], false, 1⟩ := by unfold GetC.init; rw [if_neg h, if_neg h]
  rw [this]
  exact ⟨⟨nofun, trivial, by show (0 : Nat) ≤ 1024; decide, fun x hx => (List.not_mem_nil hx).elim⟩, rfl, rfl, trivial⟩
theorem heaInit_lc {x : EarV} : HeaM.lc B S (HeaM.init B S x) := by
 have hf := HeaM.fine.init B S x
 unfold HeaM.init at hf ⊢
 by_cases h : rgOk B S = true
 ·rw [if_pos h] at hf ⊢
  exact ⟨hf, rfl, rfl, trivial⟩
 ·rw [if_neg h] at hf ⊢
  exact ⟨hf, rfl, rfl, trivial⟩
def FilT.lc (B S : Nat) (t : FilT) : Prop := t.b = B ∧ t.s = S ∧ ∀ x ∈ t.left, IsB x.2
def DraT.lc (B S : Nat) (t : DraT) : Prop := t.b = B ∧ t.s = S
def CasT.lc (B S : Nat) (t : CasT) : Prop := t.b = B ∧ t.s = S ∧ ∀ x ∈ t.left, IsB x.2
def RelT.lc (B S : Nat) (t : RelT) : Prop := t.b = B ∧ t.s = S
theorem fil_mo_lc (B S : Nat) (t : FilT) (h : t.lc B S) : (∀ m, (filC.mo t).1 = some m → PutM.lc B S m) ∧ FilT.lc B S (filC.mo t).2 := by
 refine ⟨fun m hm => ?_, h⟩
 obtain ⟨b, s, left, tries, done, places⟩ := t
 obtain ⟨h1, h2, h3⟩ := h
 dsimp only at h1 h2 h3
 cases left with
 | nil => cases hm
 | cons x r =>
  have e : some (PutC.init ⟨b, s, x.1, x.2⟩) = some m := hm
  injection e with e
  rw [← e, h1, h2]
  exact putInit_lc (h3 x (List.mem_cons_self ..))
theorem fil_en_lc (B S : Nat) (m : PutM) (t : FilT) (h : t.lc B S) (hm : PutM.lc B S m) : FilT.lc B S (filC.en m t) := by
 show FilT.lc B S (t.en m)
 unfold FilT.en
 split
 ·exact h
 ·exact ⟨h.1, h.2.1, fun x hx => h.2.2 x (List.mem_of_mem_tail hx)⟩
theorem dra_mo_lc (B S : Nat) (t : DraT) (h : t.lc B S) : (∀ m, (draC.mo t).1 = some m → GetM.lc B S m) ∧ DraT.lc B S (draC.mo t).2 := by
 obtain ⟨b, s, times, most, out⟩ := t
 obtain ⟨h1, h2⟩ := h
 dsimp only at h1 h2
 show (∀ m, (DraT.mo ⟨b, s, times, most, out⟩).1 = some m → GetM.lc B S m) ∧ DraT.lc B S (DraT.mo ⟨b, s, times, most, out⟩).2
 unfold DraT.mo
 split
 ·exact ⟨fun m hm => (by cases hm), h1, h2⟩
 ·refine ⟨fun m hm => ?_, h1, h2⟩
  have e : some (GetC.init ⟨b, s, most⟩) = some m := hm
  injection e with e
  rw [← e, h1, h2]
  exact getInit_lc
theorem dra_en_lc (B S : Nat) (m : GetM) (t : DraT) (h : t.lc B S) (hm : GetM.lc B S m) : DraT.lc B S (draC.en m t) := h
theorem cas_mo_lc (B S : Nat) (t : CasT) (h : t.lc B S) : (∀ m, (casC.mo t).1 = some m → SenM.lc B S m) ∧ CasT.lc B S (casC.mo t).2 := by
 obtain ⟨b, s, left, places, done⟩ := t
 obtain ⟨h1, h2, h3⟩ := h
 dsimp only at h1 h2 h3
 cases left with
 | nil => exact ⟨fun m hm => (by cases hm), h1, h2, h3⟩
 | cons x r =>
  refine ⟨fun m hm => ?_, h1, h2, fun y hy => h3 y (List.mem_cons_of_mem _ hy)⟩
  have e : some (SenM.init ⟨b, s, x.1, x.2⟩) = some m := hm
  injection e with e
  rw [← e, h1, h2]
  exact senInit_lc (h3 x (List.mem_cons_self ..))
theorem cas_en_lc (B S : Nat) (m : SenM) (t : CasT) (h : t.lc B S) (hm : SenM.lc B S m) : CasT.lc B S (casC.en m t) := h
theorem rel_mo_lc (B S : Nat) (t : RelT) (h : t.lc B S) : (∀ m, (relC.mo t).1 = some m → HeaM.lc B S m) ∧ RelT.lc B S (relC.mo t).2 := by
 obtain ⟨b, s, ear, left, heard, losses⟩ := t
 obtain ⟨h1, h2⟩ := h
 dsimp only at h1 h2
 show (∀ m, (RelT.mo ⟨b, s, ear, left, heard, losses⟩).1 = some m → HeaM.lc B S m) ∧ RelT.lc B S (RelT.mo ⟨b, s, ear, left, heard, losses⟩).2
 unfold RelT.mo
 split
 ·exact ⟨fun m hm => (by cases hm), h1, h2⟩
 ·refine ⟨fun m hm => ?_, h1, h2⟩
  have e : some (HeaM.init b s ear) = some m := hm
  injection e with e
  rw [← e, h1, h2]
  exact heaInit_lc
theorem rel_en_lc (B S : Nat) (m : HeaM) (t : RelT) (h : t.lc B S) (hm : HeaM.lc B S m) : RelT.lc B S (relC.en m t) := h
def FilC.lc (B S : Nat) (f : Option PutM × FilT) : Prop := (∀ m, f.1 = some m → PutM.lc B S m) ∧ FilT.lc B S f.2
def DraC.lc (B S : Nat) (f : Option GetM × DraT) : Prop := (∀ m, f.1 = some m → GetM.lc B S m) ∧ DraT.lc B S f.2
def CasC.lc (B S : Nat) (f : Option SenM × CasT) : Prop := (∀ m, f.1 = some m → SenM.lc B S m) ∧ CasT.lc B S f.2
def RelC.lc (B S : Nat) (f : Option HeaM × RelT) : Prop := (∀ m, f.1 = some m → HeaM.lc B S m) ∧ RelT.lc B S f.2
theorem fil_started (B S : Nat) (t : FilT) (h : t.lc B S) : FilC.lc B S (filC.start t) := Local.started filC (FilT.lc B S) (fil_mo_lc B S) (fil_en_lc B S) t h
theorem dra_started (B S : Nat) (t : DraT) (h : t.lc B S) : DraC.lc B S (draC.start t) := Local.started draC (DraT.lc B S) (dra_mo_lc B S) (dra_en_lc B S) t h
theorem cas_started (B S : Nat) (t : CasT) (h : t.lc B S) : CasC.lc B S (casC.start t) := Local.started casC (CasT.lc B S) (cas_mo_lc B S) (cas_en_lc B S) t h
theorem rel_started (B S : Nat) (t : RelT) (h : t.lc B S) : RelC.lc B S (relC.start t) := Local.started relC (RelT.lc B S) (rel_mo_lc B S) (rel_en_lc B S) t h
abbrev ApS : Type := ((Option PutM × FilT) ⊕ (Option GetM × DraT)) ⊕ ((Option SenM × CasT) ⊕ (Option HeaM × RelT))
def apM : Mac := Mac.Sum (Mac.Sum filC.mac draC.mac) (Mac.Sum casC.mac relC.mac)
def RingLc (B S : Nat) (s : (Option PutM × FilT) ⊕ (Option GetM × DraT)) : Prop := match s with | .inl x => FilC.lc B S x | .inr x => DraC.lc B S x
def SentLc (B S : Nat) (s : (Option SenM × CasT) ⊕ (Option HeaM × RelT)) : Prop := match s with | .inl x => CasC.lc B S x | .inr x => RelC.lc B S x
theorem Local.eq {P Q : M.σ → Prop} {lo hi : Nat} (h : Local M P lo hi) (e : ∀ s, Q s = P s) : Local M Q lo hi := (funext e : Q = P) ▸ h
theorem ring_local (B S : Nat) : Local (Mac.Sum filC.mac draC.mac) (RingLc B S) B (B + S + 24) := Local.eq (Local.sum (Local.chain filC (PutM.local B S) (FilT.lc B S) (fil_mo_lc B S) (fil_en_lc B S)) (Local.chain draC (GetM.local B S) (DraT.lc B S) (dra_mo_lc B S) (dra_en_lc B S))) (fun s => by cases s <;> rfl)
theorem sent_local (B S : Nat) : Local (Mac.Sum casC.mac relC.mac) (SentLc B S) B (B + S + 24) := Local.eq (Local.sum (Local.chain casC (SenM.local B S) (CasT.lc B S) (cas_mo_lc B S) (cas_en_lc B S)) (Local.chain relC (HeaM.local B S) (RelT.lc B S) (rel_mo_lc B S) (rel_en_lc B S))) (fun s => by cases s <;> rfl)
def LcR (s : ApS) : Prop := match s with | .inl x => RingLc 8 256 x | .inr _ => False
def LcS (s : ApS) : Prop := match s with | .inl _ => False | .inr x => SentLc 304 256 x
theorem ap_ring : Local apM LcR 8 296 := Local.eq (Local.sum ((ring_local 8 256).mono (lo' := 8) (hi' := 296) (by decide) (by decide)) (Local.no (Mac.Sum casC.mac relC.mac) _ _)) (fun s => by cases s <;> rfl)
theorem ap_sent : Local apM LcS 304 592 := Local.eq (Local.sum (Local.no (Mac.Sum filC.mac draC.mac) _ _) ((sent_local 304 256).mono (lo' := 304) (hi' := 592) (by decide) (by decide))) (fun s => by cases s <;> rfl)
def Mac.pks (M : Mac) (js : List Nat) (S : SW M.σ) : SW M.σ := js.foldl (fun S (j : Nat) => (M.pick S 0 (j : Int) 0).1) S
theorem Agree.pks {Lc Lo : M.σ → Prop} {lo hi lo' hi' : Nat} {I : Nat → Prop} (hL : Local M Lc lo hi) (hO : Local M Lo lo' hi') (hd : hi ≤ lo' ∨ hi' ≤ lo) : ∀ (js : List Nat) {S1 S2 : SW M.σ}, Agree M Lc Lo lo hi I S1.bs S2.bs S1.acts S2.acts → Agree M Lc Lo lo hi I (M.pks js S1).bs (M.pks js S2).bs (M.pks js S1).acts (M.pks js S2).acts
 | [], _, _, h => h
 | j :: js, _, _, h => Agree.pks hL hO hd js (Agree.pick hL hO hd h j)
theorem Mac.Hom.pks {M' M : Mac} {f : M'.σ → M.σ} (h : Mac.Hom M' M f) : ∀ (js : List Nat) (S : SW M'.σ), M.pks js (mapS f S) = mapS f (M'.pks js S)
 | [], S => rfl
 | j :: js, S => by
  show M.pks js (M.pick (mapS f S) 0 j 0).1 = mapS f (M'.pks js (M'.pick S 0 j 0).1)
  rw [h.pick S 0 j 0]
  exact Mac.Hom.pks h js _
theorem pks_tags {τ : Type} {g : M.σ → τ} (hg : ∀ s x, g (M.step s x) = g s) : ∀ (js : List Nat) (S : SW M.σ), tags g (M.pks js S) = tags g S
 | [], S => rfl
 | j :: js, S => (pks_tags hg js _).trans (pick_tags hg S 0 j 0)
def apAt (r c : Bool) (FL : List (Option PutM × FilT)) (d : Option GetM × DraT) (s : Option SenM × CasT) (x : Option HeaM × RelT) (i : Nat) : Option ApS :=
 if i < 3 then (if r = true then (FL[i]?).map (fun f => .inl (.inl f)) else none)
 else if i = 3 then (if r = true then some (.inl (.inr d)) else none)
 else if i = 4 then (if c = true then some (.inr (.inl s)) else none)
 else if i = 5 then (if c = true then some (.inr (.inr x)) else none)
 else none
def apS (bs : List Int) (r c : Bool) (FL : List (Option PutM × FilT)) (d : Option GetM × DraT) (s : Option SenM × CasT) (x : Option HeaM × RelT) : SW apM.σ := ⟨bs, 0, (List.range 7).map fun i => ⟨apAt r c FL d s x i, false⟩, 0, []⟩
variable {r c : Bool} {FL : List (Option PutM × FilT)} {d : Option GetM × DraT} {s : Option SenM × CasT} {x : Option HeaM × RelT} {i : Nat}
theorem apS_at {bs : List Int} {a : Ac apM.σ} (h : (apS bs r c FL d s x).acts[i]? = some a) : a = ⟨apAt r c FL d s x i, false⟩ := by
 have h : ((List.range 7).map fun i => (⟨apAt r c FL d s x i, false⟩ : Ac apM.σ))[i]? = some a := h
 rw [List.getElem?_map] at h
 obtain ⟨k, hk, rfl⟩ := Option.map_eq_some_iff.1 h
 obtain ⟨hk1, hk2⟩ := List.getElem?_eq_some_iff.1 hk
 rw [List.getElem_range] at hk2
 rw [hk2]
theorem apAt_ring {r c c' : Bool} (h : i < 4) : apAt r c FL d s x i = apAt r c' FL d s x i := by
 unfold apAt
 by_cases h1 : i < 3
 ·rw [if_pos h1, if_pos h1]
 ·rw [if_neg h1, if_neg h1, if_pos (show i = 3 by omega), if_pos (show i = 3 by omega)]
theorem apAt_sent {r r' c : Bool} (h : ¬ i < 4) : apAt r c FL d s x i = apAt r' c FL d s x i := by
 unfold apAt
 rw [if_neg (show ¬ i < 3 by omega), if_neg (show ¬ i = 3 by omega), if_neg (show ¬ i < 3 by omega), if_neg (show ¬ i = 3 by omega)]
theorem apAt_noring {c : Bool} (h : i < 4) : apAt false c FL d s x i = none := by
 unfold apAt
 by_cases h1 : i < 3
 ·rw [if_pos h1]
  rfl
 ·rw [if_neg h1, if_pos (by omega)]
  rfl
theorem apAt_nosent {r : Bool} (h : ¬ i < 4) : apAt r false FL d s x i = none := by
 unfold apAt
 rw [if_neg (by omega), if_neg (by omega)]
 by_cases h1 : i = 4
 ·rw [if_pos h1]
  rfl
 ·rw [if_neg h1]
  by_cases h2 : i = 5
  ·rw [if_pos h2]
   rfl
  ·rw [if_neg h2]
theorem apAt_lcR {y : ApS} (hF : ∀ f ∈ FL, FilC.lc 8 256 f) (hd : DraC.lc 8 256 d) (h : i < 4) (hy : apAt r c FL d s x i = some y) : LcR y := by
 unfold apAt at hy
 by_cases h1 : i < 3
 ·rw [if_pos h1] at hy
  cases r with
  | false => cases hy
  | true =>
   rw [if_pos rfl] at hy
   obtain ⟨f, hf, rfl⟩ := Option.map_eq_some_iff.1 hy
   exact hF f (List.mem_of_getElem? hf)
 ·rw [if_neg h1, if_pos (by omega)] at hy
  cases r with
  | false => cases hy
  | true =>
   rw [if_pos rfl] at hy
   cases hy
   exact hd
theorem apAt_lcS {y : ApS} (hs : CasC.lc 304 256 s) (hx : RelC.lc 304 256 x) (h : ¬ i < 4) (hy : apAt r c FL d s x i = some y) : LcS y := by
 unfold apAt at hy
 rw [if_neg (by omega), if_neg (by omega)] at hy
 by_cases h1 : i = 4
 ·rw [if_pos h1] at hy
  cases c with
  | false => cases hy
  | true =>
   rw [if_pos rfl] at hy
   cases hy
   exact hs
 ·rw [if_neg h1] at hy
  by_cases h2 : i = 5
  ·rw [if_pos h2] at hy
   cases c with
   | false => cases hy
   | true =>
    rw [if_pos rfl] at hy
    cases hy
    exact hx
  ·rw [if_neg h2] at hy
   cases hy
structure ApEq (T0 T1 T2 : SW apM.σ) : Prop where
 ring : Same 8 296 T0.bs T1.bs
 sent : Same 304 592 T0.bs T2.bs
 dra : T0.acts[3]? = T1.acts[3]?
 rel : T0.acts[5]? = T2.acts[5]?
theorem apart_law (hF : ∀ f ∈ FL, FilC.lc 8 256 f) (hd : DraC.lc 8 256 d) (hs : CasC.lc 304 256 s) (hx : RelC.lc 304 256 x) {bs : List Int} (hb : IsB bs) (js : List Nat) :
  ApEq (apM.pks js (apS bs true true FL d s x)) (apM.pks js (apS bs true false FL d s x)) (apM.pks js (apS bs false true FL d s x)) := by
 have hl : ∀ r c, (apS bs r c FL d s x).acts.length = 7 := fun r c => by unfold apS; simp
 have hat : ∀ r c i, i < 7 → (apS bs r c FL d s x).acts[i]? = some ⟨apAt r c FL d s x i, false⟩ := fun r c i hi => by
  obtain ⟨a, ha⟩ : ∃ a, (apS bs r c FL d s x).acts[i]? = some a := ⟨_, List.getElem?_eq_getElem (by rw [hl]; exact hi)⟩
  rw [ha, apS_at ha]
 have hno : ∀ r c i, ¬ i < 7 → (apS bs r c FL d s x).acts[i]? = none := fun r c i hi => List.getElem?_eq_none_iff.2 (by rw [hl]; omega)
 have A1 : Agree apM LcR LcS 8 296 (fun i => i < 4) (apS bs true true FL d s x).bs (apS bs true false FL d s x).bs (apS bs true true FL d s x).acts (apS bs true false FL d s x).acts := by
  refine ⟨⟨rfl, fun _ _ _ => rfl⟩, hb, (hl _ _).trans (hl _ _).symm, fun i hi => ?_, fun i y e hi h => ?_, fun i a hi h => ?_, fun i y e hi h => ?_⟩
  ·exact (hat _ _ _ (by omega)).trans ((congrArg (fun z => some (Ac.mk z false)) (apAt_ring hi)).trans (hat _ _ _ (by omega)).symm)
  ·have := apS_at h
   injection this with this
   exact apAt_lcR hF hd hi this.symm
  ·rw [apS_at h]
   exact apAt_nosent hi
  ·have := apS_at h
   injection this with this
   exact apAt_lcS hs hx hi this.symm
 have A2 : Agree apM LcS LcR 304 592 (fun i => ¬ i < 4) (apS bs true true FL d s x).bs (apS bs false true FL d s x).bs (apS bs true true FL d s x).acts (apS bs false true FL d s x).acts := by
  refine ⟨⟨rfl, fun _ _ _ => rfl⟩, hb, (hl _ _).trans (hl _ _).symm, fun i hi => ?_, fun i y e hi h => ?_, fun i a hi h => ?_, fun i y e hi h => ?_⟩
  ·by_cases h7 : i < 7
   ·exact (hat _ _ _ h7).trans ((congrArg (fun z => some (Ac.mk z false)) (apAt_sent hi)).trans (hat _ _ _ h7).symm)
   ·exact (hno _ _ _ h7).trans (hno _ _ _ h7).symm
  ·have := apS_at h
   injection this with this
   exact apAt_lcS hs hx hi this.symm
  ·rw [apS_at h]
   exact apAt_noring (by omega)
  ·have := apS_at h
   injection this with this
   exact apAt_lcR hF hd (by omega) this.symm
 have R1 := Agree.pks ap_ring ap_sent (.inl (by decide)) js A1
 have R2 := Agree.pks ap_sent ap_ring (.inr (by decide)) js A2
 exact ⟨R1.bs, R2.bs, R1.inn 3 (by decide), R2.inn 5 (by decide)⟩
end Go.Proofs.YtggjhleomocojaaGreat
namespace Go.Proofs.YtggjhleomocojaaGreat
set_option maxRecDepth 100000
open Go.RowKit
set_option linter.unusedVariables false
set_option linter.unusedSimpArgs false
structure Apart (w : World) (p c n : Nat) (Fs : Nat → Nat → Prop) : Prop where
 dj : ∀ i j b, Fs i b → Fs j b → i = j
 np : ∀ i, ¬ Fs i p
 nc : ∀ i, ¬ Fs i c
 lt : ∀ i b, Fs i b → b < w.heap.size ∧ i < n
def KdR (p c : Nat) (Fs : Nat → Nat → Prop) (κ : Nat → Kd) (N : Nat) : Prop := ∀ b, b < N → (∀ i, κ b = .ma i ↔ Fs i b) ∧ (κ b ≠ .no → b = p ∨ b = c ∨ ∃ i, Fs i b)
theorem Apart.kinds {w : World} {p c n : Nat} {Fs : Nat → Nat → Prop} (h : Apart w p c n Fs) : ∃ κ : Nat → Kd, (∀ i b, κ b = .ma i ↔ Fs i b) ∧ (∀ b, b = p ∨ b = c → κ b = .bu) ∧ (∀ b, κ b ≠ .no → b = p ∨ b = c ∨ ∃ i, Fs i b) ∧ ∀ k i, κ k ≠ .wo ∧ κ k ≠ .row ∧ κ k ≠ .ac i ∧ κ k ≠ .tr ∧ κ k ≠ .tb := by
 have hex : ∀ b, ∃ k : Kd, (∀ i, k = .ma i ↔ Fs i b) ∧ (b = p ∨ b = c → k = .bu) ∧ (k ≠ .no → b = p ∨ b = c ∨ ∃ i, Fs i b) ∧ ∀ i, k ≠ .wo ∧ k ≠ .row ∧ k ≠ .ac i ∧ k ≠ .tr ∧ k ≠ .tb := by
  intro b
  by_cases hb : b = p ∨ b = c
  ·refine ⟨.bu, fun i => ⟨fun e => (by cases e), fun e => ?_⟩, fun _ => rfl, fun _ => hb.elim .inl (fun e => .inr (.inl e)), fun i => ⟨nofun, nofun, nofun, nofun, nofun⟩⟩
   rcases hb with rfl | rfl
   ·exact absurd e (h.np i)
   ·exact absurd e (h.nc i)
  ·by_cases hx : ∃ j, Fs j b
   ·obtain ⟨j, hj⟩ := hx
    exact ⟨.ma j, fun i => ⟨fun e => (by injection e with e; exact e ▸ hj), fun e => (by rw [h.dj _ _ _ hj e])⟩, fun e => absurd e hb, fun _ => .inr (.inr ⟨j, hj⟩), fun i => ⟨nofun, nofun, nofun, nofun, nofun⟩⟩
   ·exact ⟨.no, fun i => ⟨fun e => (by cases e), fun e => absurd ⟨i, e⟩ hx⟩, fun e => absurd e hb, fun e => absurd rfl e, fun i => ⟨nofun, nofun, nofun, nofun, nofun⟩⟩
 obtain ⟨κ, hκ⟩ := Classical.axiomOfChoice hex
 exact ⟨κ, fun i b => (hκ b).1 i, fun b => (hκ b).2.1, fun b => (hκ b).2.2.1, fun k i => (hκ k).2.2.2 i⟩
theorem rowNew (C : Fam) {w : World} {p c n : Nat} {cnt : Int} {bs : List Int} {Fs : Nat → Nat → Prop} {g off lc : Nat} {mv : Nat → Value} {ms : List (Option C.M.σ)} (hB : Buf w p c cnt bs) (hA : Apart w p c n Fs) (hms : ms.length = n) (h0 : 0 < n) (hn : n ≤ 1000) (hlc : n ≤ lc) (hlm : lc ≤ maxLen) (hg : ∀ i, i < n → w.cell? ⟨g, off + i, none⟩ = some (mv i)) (hif : ∀ i, i < n → (mv i).oneCell' = true) (hm : ∀ i m, ms[i]? = some m → McIn C w (Fs i) (mv i) m) :
  Calls Tryz.prog 11 #[.pointer (some ⟨p, 0, none⟩), .slice (some ⟨g, off, none⟩) n lc] w fun e w' => ∃ W κ av ab, e = .returned (.pointer (some ⟨W, 0, none⟩)) ∧ WoIn C w' κ W p c av nilSl ab ⟨bs, cnt, ms.map fun m => ⟨m, false⟩, 0, []⟩ ∧ KdR p c Fs κ w.heap.size ∧ w.heap.size ≤ W ∧ Below w.heap.size w w' := by
 obtain ⟨κ, k1, k2, k3, k4⟩ := hA.kinds
 refine (wNew_any C w κ p c cnt bs n mv ms g off lc h0 hlc hlm hB (k2 p (.inl rfl)) (k2 c (.inr rfl)) hms (by omega) hg hif ?_ ?_ k4).mono ?_
 ·intro i m hi
  have h1 := hm i m hi
  cases m with
  | none => exact h1
  | some s =>
   obtain ⟨q, e, h2⟩ := h1
   exact ⟨q, e, C.mono h2 (fun b hb => (k1 i b).2 hb) (fun b hb => (hA.lt i b ((k1 i b).1 hb)).1)⟩
 ·intro k hk
  rcases k3 k hk with rfl | rfl | ⟨i, hi⟩
  ·exact hB.hd.lt
  ·exact Blk.lt hB.wd
  ·exact (hA.lt i k hi).1
 ·rintro e w' ⟨W, κ', av, ab, rfl, hW, hκ, hWs, bb⟩
  exact ⟨W, κ', av, ab, rfl, hW, fun b hb => by rw [hκ b hb]; exact ⟨fun i => k1 i b, k3 b⟩, hWs, bb⟩
theorem duoRun (C : Fam) {w : World} {p c : Nat} {cnt : Int} {bs : List Int} {F1 F2 : Nat → Prop} {q1 q2 g : Nat} {s1 s2 : C.M.σ} (hB : Buf w p c cnt bs) (h1 : C.inv w F1 q1 s1) (h2 : C.inv w F2 q2 s2) (np : ¬ F1 p ∧ ¬ F2 p) (nc : ¬ F1 c ∧ ¬ F2 c) (dj : ∀ b, F1 b → ¬ F2 b) (hg : Blk w g [.iface (C.ty s1) (ptr q1), .iface (C.ty s2) (ptr q2)]) (most : Int) (hm : most ≤ 900000) (hc0 : 0 ≤ cnt) (hc1 : cnt ≤ 1000000000000) :
  Calls Tryz.prog 11 #[.pointer (some ⟨p, 0, none⟩), .slice (some ⟨g, 0, none⟩) 2 2] w fun e wn => ∃ W, e = .returned (.pointer (some ⟨W, 0, none⟩)) ∧ w.heap.size ≤ W ∧ Below w.heap.size w wn ∧ Calls Tryz.prog 12 #[.pointer (some ⟨W, 0, none⟩), .int .i64 most] wn fun e w' => (∃ k, e = .returned (.int .i64 k)) ∧
   (∃ κ av tv ab, WoIn C w' κ W p c av tv ab (C.M.robin most ⟨bs, cnt, [⟨some s1, false⟩, ⟨some s2, false⟩], 0, []⟩).1) ∧ Keep (fun i => i = p ∨ i = c ∨ F1 i ∨ F2 i) w w' := by
 have hA : Apart w p c 2 (fun i b => (i = 0 ∧ F1 b) ∨ (i = 1 ∧ F2 b)) := by
  refine ⟨fun i j b hi hj => ?_, fun i => ?_, fun i => ?_, fun i b hb => ?_⟩
  ·rcases hi with ⟨rfl, hi⟩ | ⟨rfl, hi⟩ <;> rcases hj with ⟨rfl, hj⟩ | ⟨rfl, hj⟩
   ·rfl
   ·exact absurd hj (dj b hi)
   ·exact absurd hi (dj b hj)
   ·rfl
  ·rintro (⟨_, h⟩ | ⟨_, h⟩)
   ·exact np.1 h
   ·exact np.2 h
  ·rintro (⟨_, h⟩ | ⟨_, h⟩)
   ·exact nc.1 h
   ·exact nc.2 h
  ·rcases hb with ⟨rfl, hb⟩ | ⟨rfl, hb⟩
   ·exact ⟨(C.dom h1).2 b hb, by omega⟩
   ·exact ⟨(C.dom h2).2 b hb, by omega⟩
 refine (rowNew C (mv := fun i => if i = 0 then .iface (C.ty s1) (ptr q1) else .iface (C.ty s2) (ptr q2)) (ms := [some s1, some s2]) (off := 0) (n := 2) hB hA rfl (by decide) (by decide) (Nat.le_refl _) (by unfold maxLen; omega) ?_ ?_ ?_).mono ?_
 ·intro i hi
  match i, hi with
  | 0, _ => exact hg.cell 0
  | 1, _ => exact hg.cell 1
 ·intro i hi
  show (if i = 0 then _ else _ : Value).oneCell' = true
  split <;> rfl
 ·intro i m hi
  match i, hi with
  | 0, hi =>
   cases (show some (some s1) = some m from hi)
   exact ⟨q1, rfl, C.mono h1 (fun b hb => .inl ⟨rfl, hb⟩) (fun b hb => by rcases hb with ⟨_, hb⟩ | ⟨e, _⟩; exact (C.dom h1).2 b hb; cases e)⟩
  | 1, hi =>
   cases (show some (some s2) = some m from hi)
   exact ⟨q2, rfl, C.mono h2 (fun b hb => .inr ⟨rfl, hb⟩) (fun b hb => by rcases hb with ⟨e, _⟩ | ⟨_, hb⟩; cases e; exact (C.dom h2).2 b hb)⟩
  | i + 2, hi => simp at hi
 ·rintro e wn ⟨W, κ, av, ab, rfl, hW, hκ, hWs, bb⟩
  refine ⟨W, rfl, hWs, bb, (wRobin_any hW most hm hc0 hc1 (by simp) (by simp)).mono ?_⟩
  rintro e w' ⟨rfl, κ', tv', h', hκ', kp⟩
  refine ⟨⟨_, rfl⟩, ⟨κ', av, tv', ab, h'⟩, (Below.keeps bb).then (kp.mono (fun i _ e => e)) (fun i hi hn => ?_)⟩
  rcases (hκ i hi).2 hn with h | h | ⟨j, ⟨_, h⟩ | ⟨_, h⟩⟩
  ·exact .inl h
  ·exact .inr (.inl h)
  ·exact .inr (.inr (.inl h))
  ·exact .inr (.inr (.inr h))
end Go.Proofs.YtggjhleomocojaaGreat
