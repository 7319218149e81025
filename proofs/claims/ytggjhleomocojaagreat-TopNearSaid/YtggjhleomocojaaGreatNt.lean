/- A relay's block. Conditions: as each says. -/
import Derived.Test.YtggjhleomocojaaGreatNr
import Derived.Test.YtggjhleomocojaaGreatGp
namespace Go.Proofs.YtggjhleomocojaaGreat
set_option maxRecDepth 100000
open Go.RowKit
set_option linter.unusedVariables false
set_option linter.unusedSimpArgs false
def relV (nv : Value) (t : RelT) (ov : Value) : List Value := [.int .i64 t.b, .int .i64 t.s, .int .i64 t.ear.cu, .int .i64 t.ear.nx, .int .i64 t.ear.la, .int .i64 t.left, nv, ov, .int .i64 t.losses]
def hsL (e : (Int × (Int × List Int)) × Value) : List Value := [.int .i64 e.1.1, .int .i32 e.1.2.1, e.2]
def HdIn (w : World) (L : Nat → Prop) (ov : Value) (hs : List (Int × (Int × List Int))) : Prop :=
 ∃ es : List ((Int × (Int × List Int)) × Value), es.map (·.1) = hs ∧ w.ownsRow 0 50 3 ov es.length (es.flatMap hsL) ∧ ∀ e ∈ es, RdB w e.2 e.1.2.2 ∧ e.1.2.2.length ≤ 10000000 ∧ ∀ i, e.2.ownBlock = some i → L i
variable {w w' : World}
theorem HdIn.keep {L K : Nat → Prop} {ov : Value} {hs : List (Int × (Int × List Int))} (h : HdIn w L ov hs) (k : Keep K w w') (h1 : ∀ i, L i → ¬ K i) (h2 : ∀ i, ov.ownBlock = some i → ¬ K i) : HdIn w' L ov hs := by
 obtain ⟨es, e1, e2, e3⟩ := h
 exact ⟨es, e1, ownsRow_keep e2 k h2, fun e he => ⟨(e3 e he).1.keepP k (fun i hi => h1 i ((e3 e he).2.2 i hi)), (e3 e he).2⟩⟩
structure RelD (w : World) (L : Nat → Prop) (t : RelT) (ov : Value) : Prop where
 hd : HdIn w L ov t.heard
 nl : ∀ i, ov.ownBlock = some i → ¬ L i
 ll : ∀ i, L i → i < w.heap.size
 bb : -9223372036854775808 ≤ t.b ∧ t.b ≤ 9223372036854775807
 bs : -9223372036854775808 ≤ t.s ∧ t.s ≤ 9223372036854775807
 sm : t.heard.length + t.left.toNat ≤ 1000 ∧ 0 ≤ t.losses ∧ t.losses + t.left.toNat ≤ 1000 ∧ t.left ≤ 1000
variable {t : RelT}
theorem RelD.keep {L K : Nat → Prop} {ov : Value} (h : RelD w L t ov) (k : Keep K w w') (h1 : ∀ i, L i → ¬ K i) (h2 : ∀ i, ov.ownBlock = some i → ¬ K i) : RelD w' L t ov :=
 ⟨h.hd.keep k h1 h2, h.nl, fun i hi => Nat.lt_of_lt_of_le (h.ll i hi) k.size, h.bb, h.bs, h.sm⟩
def RelN (w : World) (F1 : Nat → Prop) (nv : Value) (cur : Option HeaM) : Prop := match cur with
 | none => nv = .pointer none
 | some m => ∃ p, nv = ptr p ∧ HeaF w F1 p m
variable {cur : Option HeaM}
theorem RelN.keep {F1 K : Nat → Prop} {nv : Value} (h : RelN w F1 nv cur) (k : Keep K w w') (hd : ∀ i, F1 i → ¬ K i) : RelN w' F1 nv cur := by
 cases cur with
 | none => exact h
 | some m =>
  obtain ⟨p, e, h⟩ := h
  exact ⟨p, e, h.keep k hd⟩
structure RelB (w0 : World) (O0 : Nat → Prop) (w : World) (q : Nat) (L F1 : Nat → Prop) (cur : Option HeaM) (t : RelT) (nv ov : Value) : Prop where
 k : Keep O0 w0 w
 b : Blk w q (relV nv t ov)
 d : RelD w L t ov
 c : RelN w F1 nv cur
 nq : ¬ L q ∧ ¬ F1 q
 qd : ov.ownBlock ≠ some q
 f1 : ∀ i, F1 i → i < w.heap.size ∧ ¬ L i ∧ ov.ownBlock ≠ some i
 o : ∀ i, (i = q ∨ L i ∨ ov.ownBlock = some i ∨ F1 i) → O0 i ∨ w0.heap.size ≤ i
variable {O0 : Nat → Prop} {q : Nat} {L F1 : Nat → Prop}
theorem RelB.below {w0 w w' : World} {nv ov : Value} (h : RelB w0 O0 w q L F1 cur t nv ov) (b : Below w.heap.size w w') : RelB w0 O0 w' q L F1 cur t nv ov :=
 have k : Keep (fun _ => False) w w' := Below.keeps b
 ⟨h.k.trans (Below.keeps b), h.b.below b h.b.lt, h.d.keep k (fun _ _ => id) (fun _ _ => id), h.c.keep k (fun _ _ => id), h.nq, h.qd, fun i hi => ⟨Nat.lt_of_lt_of_le (h.f1 i hi).1 b.size, (h.f1 i hi).2⟩, h.o⟩
theorem RelB.set {w0 w : World} {L F1 F1' : Nat → Prop} {cur cur' : Option HeaM} {t t' : RelT} {nv nv' ov : Value} (h : RelB w0 O0 w q L F1 cur t nv ov) (i : Nat) (v : Value) (hv : (relV nv t ov).set i v = relV nv' t' ov)
  (hd : RelD w L t' ov) (hc : RelN w F1' nv' cur') (h1 : ¬ F1' q) (h2 : ∀ i, F1' i → i < w.heap.size ∧ ¬ L i ∧ ov.ownBlock ≠ some i) (h3 : ∀ i, F1' i → O0 i ∨ w0.heap.size ≤ i) : RelB w0 O0 (w.setCell ⟨q, i, none⟩ v) q L F1' cur' t' nv' ov := by
 have ks : Keep (fun i => i = q) w (w.setCell ⟨q, i, none⟩ v) := (Keep.refl (fun i => i = q) w).setCell (p := ⟨q, i, none⟩) (.inl rfl) _
 have hz := ks.size
 refine ⟨h.k.then ks (fun i hi e => ?_), hv ▸ h.b.set i v, hd.keep ks (fun i hi e => h.nq.1 (e ▸ hi)) (fun i hi e => h.qd (e ▸ hi)), hc.keep ks (fun i hi e => h1 (e ▸ hi)), ⟨h.nq.1, h1⟩, h.qd, fun i hi => ⟨Nat.lt_of_lt_of_le (h2 i hi).1 hz, (h2 i hi).2⟩, fun i hi => ?_⟩
 ·rcases h.o i (.inl e) with h9 | h9
  ·exact h9
  ·omega
 ·rcases hi with hi | hi | hi | hi
  ·exact h.o i (.inl hi)
  ·exact h.o i (.inr (.inl hi))
  ·exact h.o i (.inr (.inr (.inl hi)))
  ·exact h3 i hi
theorem RelB.set1 {w0 w : World} {t t' : RelT} {nv ov : Value} (h : RelB w0 O0 w q L F1 cur t nv ov) (i : Nat) (v : Value) (hv : (relV nv t ov).set i v = relV nv t' ov)
  (hd : RelD w L t' ov) : RelB w0 O0 (w.setCell ⟨q, i, none⟩ v) q L F1 cur t' nv ov := h.set i v hv hd h.c h.nq.2 h.f1 (fun i hi => h.o i (.inr (.inr (.inr hi))))
theorem RelB.pushH {w0 w w4 : World} {nv ov v4 : Value} (h : RelB w0 O0 w q L F1 cur t nv ov) (at_ typ : Int) (l : List Int) (sv : Value) (hs : t.heard.length + 1 + t.left.toNat ≤ 1000) (hl : l.length ≤ 10000000) (hr : RdB w sv l)
  (hsv : ∀ i, sv.ownBlock = some i → i < w.heap.size ∧ w0.heap.size ≤ i ∧ i ≠ q ∧ ¬ F1 i ∧ ov.ownBlock ≠ some i) (es : List ((Int × (Int × List Int)) × Value)) (he1 : es.map (·.1) = t.heard) (he3 : ∀ e ∈ es, RdB w e.2 e.1.2.2 ∧ e.1.2.2.length ≤ 10000000 ∧ ∀ i, e.2.ownBlock = some i → L i)
  (k : Keep (fun i => ov.ownBlock = some i) w w4) (o : w4.ownsRow 0 50 3 v4 (t.heard.length + 1) (es.flatMap hsL ++ [.int .i64 at_, .int .i32 typ, sv])) (ho : v4.ownBlock = ov.ownBlock ∨ ∃ i, v4.ownBlock = some i ∧ w.heap.size ≤ i) :
  RelB w0 O0 (w4.setCell ⟨q, 7, none⟩ v4) q (fun i => L i ∨ sv.ownBlock = some i) F1 cur { t with heard := t.heard ++ [(at_, (typ, l))] } nv v4 := by
 have hq := h.b.lt
 have hob : ∀ i, i < w.heap.size → v4.ownBlock = some i → ov.ownBlock = some i := fun i hi hv => by
  rcases ho with e | ⟨j, e, hj⟩
  ·exact e ▸ hv
  ·rw [e] at hv
   cases hv
   omega
 have hoo : ∀ i, v4.ownBlock = some i → O0 i ∨ w0.heap.size ≤ i := fun i hv => by
  rcases ho with e | ⟨j, e, hj⟩
  ·exact h.o i (.inr (.inr (.inl (e ▸ hv))))
  ·rw [e] at hv
   cases hv
   exact .inr (Nat.le_trans h.k.size hj)
 have ks : Keep (fun i => i = q) w4 (w4.setCell ⟨q, 7, none⟩ v4) := (Keep.refl (fun i => i = q) w4).setCell (p := ⟨q, 7, none⟩) (.inl rfl) _
 have hz := Nat.le_trans k.size ks.size
 have hq4 : v4.ownBlock ≠ some q := fun e => h.qd (hob q hq e)
 have hL : ∀ i, (L i ∨ sv.ownBlock = some i) → ¬ v4.ownBlock = some i := fun i hi e => by
  rcases hi with hi | hi
  ·exact h.d.nl i (hob i (h.d.ll i hi) e) hi
  ·exact (hsv i hi).2.2.2.2 (hob i (hsv i hi).1 e)
 refine ⟨(h.k.then k (fun i hi e => ?_)).then ks (fun i hi e => ?_), (h.b.keep k h.qd).set 7 v4, ?_, (h.c.keep k (fun i hi e => (h.f1 i hi).2.2 e)).keep ks (fun i hi e => h.nq.2 (e ▸ hi)), ⟨?_, h.nq.2⟩, hq4, fun i hi => ⟨Nat.lt_of_lt_of_le (h.f1 i hi).1 hz, ?_, fun e => (h.f1 i hi).2.2 (hob i (h.f1 i hi).1 e)⟩, fun i hi => ?_⟩
 ·rcases h.o i (.inr (.inr (.inl e))) with h9 | h9
  ·exact h9
  ·omega
 ·rcases h.o i (.inl e) with h9 | h9
  ·exact h9
  ·omega
 ·refine ⟨⟨es ++ [((at_, (typ, l)), sv)], by rw [List.map_append, he1]; rfl, ?_, fun e he => ?_⟩, fun i e hi => hL i hi e, fun i hi => ?_, h.d.bb, h.d.bs, ⟨by simp only [List.length_append, List.length_singleton]; exact hs, h.d.sm.2⟩⟩
  ·have := ownsRow_keep o ks (fun i hi e => hq4 (e ▸ hi))
   have e1 : (es ++ [((at_, (typ, l)), sv)]).length = t.heard.length + 1 := by
    rw [List.length_append, ← he1, List.length_map]
    rfl
   have e2 : (es ++ [((at_, (typ, l)), sv)]).flatMap hsL = es.flatMap hsL ++ [.int .i64 at_, .int .i32 typ, sv] := by
    rw [List.flatMap_append]
    rfl
   rw [e1, e2]
   exact this
  ·rcases List.mem_append.1 he with he | he
   ·obtain ⟨r1, r2, r3⟩ := he3 e he
    exact ⟨(r1.keepP k (fun i hi e => h.d.nl i e (r3 i hi))).keepP ks (fun i hi e => h.nq.1 (e ▸ r3 i hi)), r2, fun i hi => .inl (r3 i hi)⟩
   ·obtain rfl := List.mem_singleton.1 he
    exact ⟨(hr.keepP k (fun i hi e => (hsv i hi).2.2.2.2 e)).keepP ks (fun i hi e => (hsv i hi).2.2.1 e), hl, fun i hi => .inr hi⟩
  ·rcases hi with hi | hi
   ·exact Nat.lt_of_lt_of_le (h.d.ll i hi) hz
   ·exact Nat.lt_of_lt_of_le (hsv i hi).1 hz
 ·rintro (hi | hi)
  ·exact h.nq.1 hi
  ·exact (hsv q hi).2.2.1 rfl
 ·rintro (h9 | h9)
  ·exact (h.f1 i hi).2.1 h9
  ·exact (hsv i h9).2.2.2.1 hi
 ·rcases hi with hi | (hi | hi) | hi | hi
  ·exact h.o i (.inl hi)
  ·exact h.o i (.inr (.inl hi))
  ·exact .inr (hsv i hi).2.1
  ·exact hoo i hi
  ·exact h.o i (.inr (.inr (.inr hi)))
end Go.Proofs.YtggjhleomocojaaGreat
namespace Go.Proofs.YtggjhleomocojaaGreat
set_option maxRecDepth 100000
open Go.RowKit
set_option linter.unusedVariables false
set_option linter.unusedSimpArgs false
theorem hdinfo : (Tryz.prog.info? 50).map (fun i => (i.zero, i.size, i.bytes)) = some (some (.agg #[.int .i64 0, .int .i32 0, .slice none 0 0]), 3, 40) := by kernel_rfl
set_option maxHeartbeats 8000000 in
theorem relNote_any {w0 w : World} {O0 : Nat → Prop} {q : Nat} {L F1 : Nat → Prop} {m : HeaM} {t : RelT} {nv ov : Value} (h : RelB w0 O0 w q L F1 (some m) t nv ov) (hs : t.heard.length + t.left.toNat < 1000 ∧ t.losses + t.left.toNat < 1000) :
  Calls Tryz.prog 81 #[ptr q] w fun e w' => e = .returned (.tuple #[]) ∧ ∃ L' ov', RelB w0 O0 w' q L' F1 (some m) (t.en m) nv ov' := by
 obtain ⟨p, e0, hF⟩ := h.c
 subst e0
 obtain ⟨hf1, hf2, hf3, O, R, mv, hOR, hI⟩ := id hF
 have H := Lib.hid h
 have HI := Lib.hid hI
 have HS := Lib.hid hs
 have ML := Lib.hid hf3.ml
 have hlt := h.b.lt
 have np : p ≠ q := fun e => h.nq.2 (e ▸ hf1)
 have lp := hf2 p hf1
 have c6 : w.cell? ⟨q, 6, none⟩ = some (.pointer (some ⟨p, 0, none⟩)) := Blk.cell h.b 6
 clear h hI hF hs hf1 hf2 hf3 hOR
 unfold ptr
 go_enter Tryz.func81, Tryz.ntmps81
 go_wp2_with fail
 refine (hResult_any w HI.out (by have := ML.out; omega)).mono ?_
 rintro e w1 ⟨s0, sl, sc, rfl, o1, b1⟩
 have z1 := b1.size
 obtain ⟨w2, hw2⟩ : ∃ w2, w2 = w1.alloc (.cells #[.int .i32 m.msg.1, .slice s0 sl sc] 34) := ⟨_, rfl⟩
 have b2 : Below w1.heap.size w1 w2 := by rw [hw2]; go_grown
 have z2 : w2.heap.size = w1.heap.size + 1 := by rw [hw2]; simp
 have X2 := Lib.hid (show Blk w2 w1.heap.size [.int .i32 m.msg.1, .slice s0 sl sc] by rw [hw2]; exact Blk.made w1 _ _)
 have HB2 := Lib.hid ((H.out.below b1).below b2)
 have HI2 := Lib.hid ((HI.out.below b1).below b2)
 have O2 := Lib.hid (ownsRow_keep o1 (Below.keeps (M := fun _ => False) b2) (fun _ _ => id))
 have FR := Lib.hid (World.ownsRow.lt o1)
 have l2 := HB2.out.b.lt
 have d6 : w2.cell? ⟨q, 6, none⟩ = some (.pointer (some ⟨p, 0, none⟩)) := Blk.cell HB2.out.b 6
 clear b1 o1 b2 c6
 go_upto_region 1 with fail
 rw [← hw2]
 clear hw2
 go_wp2_with fail
 refine (hState_any _ HI2.out.at_).mono ?_
 rintro e w3 ⟨rfl, b3⟩
 have z3 := b3.size
 have HB3 := Lib.hid (HB2.out.below b3)
 have X3 := Lib.hid (X2.out.below b3 (by omega))
 have O3 := Lib.hid (ownsRow_keep O2.out (Below.keeps (M := fun _ => False) b3) (fun _ _ => id))
 have l3 := HB3.out.b.lt
 have D3 := HB3.out.d
 have HB4 := Lib.hid (((HB3.out.set1 (t' := { t with ear := ⟨m.cu, t.ear.nx, t.ear.la⟩ }) 2 (.int .i64 m.cu) rfl ⟨D3.hd, D3.nl, D3.ll, D3.bb, D3.bs, D3.sm⟩).set1 (t' := { t with ear := ⟨m.cu, m.nx, t.ear.la⟩ }) 3 (.int .i64 m.nx) rfl (by
  have D := (HB3.out.set1 (t' := { t with ear := ⟨m.cu, t.ear.nx, t.ear.la⟩ }) 2 (.int .i64 m.cu) rfl ⟨D3.hd, D3.nl, D3.ll, D3.bb, D3.bs, D3.sm⟩).d
  exact ⟨D.hd, D.nl, D.ll, D.bb, D.bs, D.sm⟩)).set1 (t' := { t with ear := ⟨m.cu, m.nx, m.la⟩ }) 4 (.int .i64 m.la) rfl (by
  have D := ((HB3.out.set1 (t' := { t with ear := ⟨m.cu, t.ear.nx, t.ear.la⟩ }) 2 (.int .i64 m.cu) rfl ⟨D3.hd, D3.nl, D3.ll, D3.bb, D3.bs, D3.sm⟩).set1 (t' := { t with ear := ⟨m.cu, m.nx, t.ear.la⟩ }) 3 (.int .i64 m.nx) rfl (by
  have D := (HB3.out.set1 (t' := { t with ear := ⟨m.cu, t.ear.nx, t.ear.la⟩ }) 2 (.int .i64 m.cu) rfl ⟨D3.hd, D3.nl, D3.ll, D3.bb, D3.bs, D3.sm⟩).d
  exact ⟨D.hd, D.nl, D.ll, D.bb, D.bs, D.sm⟩)).d
  exact ⟨D.hd, D.nl, D.ll, D.bb, D.bs, D.sm⟩))
 have K4 := Lib.hid (((((Keep.refl (· = q) w3).setCell (p := ⟨q, 2, none⟩) (.inl rfl) (.int .i64 m.cu)).setCell (p := ⟨q, 3, none⟩) (.inl rfl) (.int .i64 m.nx)).setCell (p := ⟨q, 4, none⟩) (.inl rfl) (.int .i64 m.la)))
 have g2 := HB3.out.b.frozen 2
 have g3 := HB3.out.b.frozen 3
 have g4 := HB3.out.b.frozen 4
 have e2 : w3.cell? ⟨q, 2, none⟩ = some (.int .i64 t.ear.cu) := Blk.cell HB3.out.b 2
 have e3 : w3.cell? ⟨q, 3, none⟩ = some (.int .i64 t.ear.nx) := Blk.cell HB3.out.b 3
 have e4 : w3.cell? ⟨q, 4, none⟩ = some (.int .i64 t.ear.la) := Blk.cell HB3.out.b 4
 clear D3 d6
 go_upto_region 2 with fail
 obtain ⟨w4, hw4⟩ : ∃ w4, w4 = ((w3.setCell ⟨q, 2, none⟩ (.int .i64 m.cu)).setCell ⟨q, 3, none⟩ (.int .i64 m.nx)).setCell ⟨q, 4, none⟩ (.int .i64 m.la) := ⟨_, rfl⟩
 rw [← hw4] at HB4 K4
 rw [← hw4]
 clear hw4 e2 e3 e4 g2 g3 g4
 have z4 := K4.out.size
 have nqb : w1.heap.size ≠ q := by have := H.out.b.lt; omega
 have X4 := Lib.hid (X3.out.keep K4.out nqb)
 have nqs : ∀ i, (Value.slice s0 sl sc).ownBlock = some i → i ≠ q := fun i hi e => by have := FR.out i hi; have := H.out.b.lt; omega
 have O4 := Lib.hid (ownsRow_keep O3.out K4.out (fun i hi e => nqs i hi e))
 by_cases hh : m.heard = true
 ·have HEN := Lib.hid (show ({ t.en m with losses := t.losses } : RelT) = { t with ear := ⟨m.cu, m.nx, m.la⟩, heard := t.heard ++ [(m.cu, m.msg)] } by unfold RelT.en HeaM.ear; rw [if_pos hh])
  rw [hh]
  go_upto_if 22 with fail
  go_cut [] from 23 to 38 (fun wx => ∃ L' ov', RelB w0 O0 wx q L' F1 (some m) { t.en m with losses := t.losses } (ptr p) ov')
  case first =>
   obtain ⟨es, he1, he2, he3⟩ := HB4.out.d.hd
   have hel : es.length = t.heard.length := by rw [← he1, List.length_map]
   rw [hel] at he2
   obtain ⟨oa, oc, rfl⟩ : ∃ oa oc, ov = .slice oa t.heard.length oc := by
    rcases he2.2 with ⟨rfl, h0⟩ | ⟨g, cap, cur, rfl, _⟩
    ·exact ⟨none, 0, by rw [h0]⟩
    ·exact ⟨_, _, rfl⟩
   have HES := Lib.hid (And.intro he1 (And.intro he2 he3))
   clear he1 he2 he3 hel
   obtain ⟨i0, hi, hz0', hz1', hz2'⟩ := info_parts hdinfo
   have l4 := HB4.out.b.lt
   have lm4 := X4.out.lt
   have c7 : w4.cell? ⟨q, 7, none⟩ = some (.slice oa t.heard.length oc) := Blk.cell HB4.out.b 7
   have f7 := HB4.out.b.frozen 7
   have c2 : w4.cell? ⟨q, 2, none⟩ = some (.int .i64 m.cu) := Blk.cell HB4.out.b 2
   have x0 := X4.out.cell 0
   have x1 := X4.out.cell 1
   simp only [List.getElem?_cons_zero, List.getElem?_cons_succ] at x0 x1
   have hsz := HS.out.1
   have nov : ∀ i, (Value.slice oa t.heard.length oc).ownBlock = some i → i ≠ q := fun i hi e => HB4.out.qd (e ▸ hi)
   have nom : ∀ i, (Value.slice oa t.heard.length oc).ownBlock = some i → i ≠ w1.heap.size := fun i hi e => by
    have := World.ownsRow.lt HES.out.2.1 i hi
    have h9 := H.out.d.hd
    obtain ⟨es', _, h8, _⟩ := h9
    have := World.ownsRow.lt h8 i hi
    omega
   go_upto_region 3 with fail
   refine wp_region_held_drew (S := fun w' => w'.cell? ⟨q, 2, none⟩ = some (.int .i64 m.cu) ∧ w'.cell? ⟨w1.heap.size, 0, none⟩ = some (.int .i32 m.msg.1) ∧ w'.cell? ⟨w1.heap.size, 1, none⟩ = some (.slice s0 sl sc)) (by kernel_rfl) ?_ (fun hHeld => ?_)
   ·try dsimp only
    exact ⟨c2, x0, x1⟩
   refine wpT (v := ?_) 0 rfl ?_ ?_
   rotate_left
   ·intro w0 hSw
    (try dsimp only at hSw)
    go_simp
    try with_reducible rfl
   try simp only [Act.put, tS]
   refine wpT (v := ?_) 1 rfl ?_ ?_
   rotate_left
   ·intro w0 hSw
    (try dsimp only at hSw)
    go_simp
    try with_reducible rfl
   try simp only [Act.put, tS]
   refine wpT (v := ?_) 2 rfl ?_ ?_
   rotate_left
   ·intro w0 hSw
    (try dsimp only at hSw)
    go_simp
    try with_reducible rfl
   try simp only [Act.put, tS]
   refine wpT (v := ?_) 3 rfl ?_ ?_
   rotate_left
   ·intro w0 hSw
    (try dsimp only at hSw)
    go_simp
    try with_reducible rfl
   try simp only [Act.put, tS]
   refine wpT (v := ?_) 5 rfl ?_ ?_
   rotate_left
   ·intro w0 hSw
    (try dsimp only at hSw)
    go_simp
    try with_reducible rfl
   try simp only [Act.put, tS]
   refine wpT (v := ?_) 6 rfl ?_ ?_
   rotate_left
   ·intro w0 hSw
    (try dsimp only at hSw)
    go_simp
    try with_reducible rfl
   try simp only [Act.put, tS]
   refine wpT (v := ?_) 7 rfl ?_ ?_
   rotate_left
   ·intro w0 hSw
    (try dsimp only at hSw)
    go_simp
    try with_reducible rfl
   try simp only [Act.put, tS]
   refine wpT (v := ?_) 8 rfl ?_ ?_
   rotate_left
   ·intro w0 hSw
    (try dsimp only at hSw)
    go_simp
    try with_reducible rfl
   try simp only [Act.put, tS]
   refine wpT (v := ?_) 9 rfl ?_ ?_
   rotate_left
   ·intro w0 hSw
    (try dsimp only at hSw)
    go_simp
    try with_reducible rfl
   try simp only [Act.put, tS]
   refine wpT (v := ?_) 10 rfl ?_ ?_
   rotate_left
   ·intro w0 hSw
    (try dsimp only at hSw)
    go_simp
    try with_reducible rfl
   try simp only [Act.put, tS]
   refine wpT (v := ?_) 11 rfl ?_ ?_
   rotate_left
   ·intro w0 hSw
    (try dsimp only at hSw)
    go_simp
    try with_reducible rfl
   try simp only [Act.put, tS]
   refine wpAnyH_ready (rs := [4, 12]) (by kernel_rfl) (by simp) ?_
   refine AllReadyH.cons rfl (fun K hK => ?_) (AllReadyH.cons rfl (fun K hK => ?_) AllReadyH.nil)
   ·go_simp
    refine hK.out _ _ ?_ (fun hHeld => ?_)
    ·try dsimp only
     go_keep
    clear hK K
    try simp only [Act.put, tS]
    refine wpR 12 rfl fun K hK => ?_
    try go_simp
    go_wp2_with fail
    refine hK.out _ _ ?_ (fun hHeld => ?_)
    ·try dsimp only
     go_keep
    clear hK K
    try simp only [Act.put, tS]
    refine wpR 13 rfl fun K hK => ?_
    have hnew := Blk.made (w4.drew) #[Value.int .i64 m.cu, Value.int .i32 m.msg.1, Value.slice s0 sl sc] 50
    have bA : Below w4.heap.size w4 ((w4.drew).alloc (Obj.cells #[Value.int .i64 m.cu, Value.int .i32 m.msg.1, Value.slice s0 sl sc] 50)) := by go_grown
    refine step_app1 (by rfl) _ _ 47 50 (by rfl) Tryz.underlying47 hi hz0' hz1' hz2' rfl (by decide) (.slice oa t.heard.length oc) t.heard.length (es.flatMap hsL) (by rfl) (ownsRow_keep HES.out.2.1 (Below.keeps (M := fun _ => False) bA) (fun _ _ => id)) w4.heap.size [Value.int .i64 m.cu, Value.int .i32 m.msg.1, Value.slice s0 sl sc] (by rfl) hnew rfl (by intro u hu; simp at hu; rcases hu with rfl | rfl | rfl <;> rfl) (by omega) (by unfold maxLen; omega) ?_
    intro ov' w5 ow5 gr5 hov5
    obtain ⟨ra, rn, rc, rfl⟩ : ∃ ra rn rc, ov' = .slice ra rn rc := by
     rcases ow5.2 with ⟨e, _⟩ | ⟨_, _, _, e, _⟩
     ·exact ⟨_, _, _, e⟩
     ·exact ⟨_, _, _, e⟩
    have kg5 := grown_keep gr5
    have zg5 := kg5.size
    simp at zg5
    have eq7 := (kg5.cell (b := q) 7 (by simp; omega) (fun e => nov _ e rfl)).trans ((bA.cell (p := ⟨q, 7, none⟩) l4).trans c7)
    have eq2 := (kg5.cell (b := q) 2 (by simp; omega) (fun e => nov _ e rfl)).trans ((bA.cell (p := ⟨q, 2, none⟩) l4).trans c2)
    have ex0 := (kg5.cell (b := w1.heap.size) 0 (by simp; omega) (fun e => nom _ e rfl)).trans ((bA.cell (p := ⟨w1.heap.size, 0, none⟩) lm4).trans x0)
    have ex1 := (kg5.cell (b := w1.heap.size) 1 (by simp; omega) (fun e => nom _ e rfl)).trans ((bA.cell (p := ⟨w1.heap.size, 1, none⟩) lm4).trans x1)
    have fq7 := (kg5.frozen (b := q) 7 (by simp; omega) (fun e => nov _ e rfl)).trans (((Below.keeps (M := fun _ => False) bA).frozen (b := q) 7 l4 id).trans f7)
    refine hK.out _ _ ?_ (fun hHeld => ?_)
    ·try dsimp only
     exact ⟨eq2, ex0, ex1⟩
    clear hK K
    try simp only [Act.put, tS]
    refine wpT (v := ?_) 14 rfl ?_ ?_
    rotate_left
    ·intro w0 hSw
     (try dsimp only at hSw)
     go_simp
     try with_reducible rfl
    try simp only [Act.put, tS]
    refine wpT (v := ?_) 15 rfl ?_ ?_
    rotate_left
    ·intro w0 hSw
     (try dsimp only at hSw)
     go_simp
     try with_reducible rfl
    try simp only [Act.put, tS]
    have kW : Keep (fun i => (Value.slice oa t.heard.length oc).ownBlock = some i) w4 w5 := (Below.keeps bA).trans kg5
    have B5 := HB4.out.b.keep kW HB4.out.qd
    have ks5 := Keep.setCell (M := (· = q)) (Keep.refl _ w5) (p := ⟨q, 7, none⟩) (.inl rfl) (.slice ra rn rc)
    refine wpR 16 rfl fun K hK => ?_
    go_simp
    refine hK.out _ _ ?_ (fun hHeld => ?_)
    ·try dsimp only
     exact ⟨Blk.cell (B5.set 7 (.slice ra rn rc)) 2, (ks5.cell (b := w1.heap.size) 0 (by omega) nqb).trans ex0, (ks5.cell (b := w1.heap.size) 1 (by omega) nqb).trans ex1⟩
    clear hK K
    try simp only [Act.put, tS]
    refine wpAnyH_done (by kernel_rfl) ?_ _
    clear hHeld
    go_wp2_with fail
    go_meet
    refine ⟨fun i => L i ∨ (Value.slice s0 sl sc).ownBlock = some i, .slice ra rn rc, ?_⟩
    rw [HEN.out]
    refine HB4.out.pushH m.cu m.msg.1 m.msg.2 (.slice s0 sl sc) (by show t.heard.length + 1 + t.left.toNat ≤ 1000; omega) ML.out (OwB.rd O4.out) (fun i hi => ?_) es HES.out.1 HES.out.2.2 kW ow5 (hov5.imp id fun h => ⟨_, h, by simp⟩)
    have h1 := FR.out i hi
    have h2 := H.out.k.size
    refine ⟨by omega, by omega, nqs i hi, fun h => by have := H.out.f1 i h; omega, fun h => ?_⟩
    obtain ⟨es', _, h8, _⟩ := H.out.d.hd
    have := World.ownsRow.lt h8 i h
    omega
   ·try go_simp
    go_wp2_with fail
    refine hK.out _ _ ?_ (fun hHeld => ?_)
    ·try dsimp only
     go_keep
    clear hK K
    try simp only [Act.put, tS]
    refine wpR 4 rfl fun K hK => ?_
    go_simp
    refine hK.out _ _ ?_ (fun hHeld => ?_)
    ·try dsimp only
     go_keep
    clear hK K
    try simp only [Act.put, tS]
    refine wpR 13 rfl fun K hK => ?_
    have hnew := Blk.made (w4.drew) #[Value.int .i64 m.cu, Value.int .i32 m.msg.1, Value.slice s0 sl sc] 50
    have bA : Below w4.heap.size w4 ((w4.drew).alloc (Obj.cells #[Value.int .i64 m.cu, Value.int .i32 m.msg.1, Value.slice s0 sl sc] 50)) := by go_grown
    refine step_app1 (by rfl) _ _ 47 50 (by rfl) Tryz.underlying47 hi hz0' hz1' hz2' rfl (by decide) (.slice oa t.heard.length oc) t.heard.length (es.flatMap hsL) (by rfl) (ownsRow_keep HES.out.2.1 (Below.keeps (M := fun _ => False) bA) (fun _ _ => id)) w4.heap.size [Value.int .i64 m.cu, Value.int .i32 m.msg.1, Value.slice s0 sl sc] (by rfl) hnew rfl (by intro u hu; simp at hu; rcases hu with rfl | rfl | rfl <;> rfl) (by omega) (by unfold maxLen; omega) ?_
    intro ov' w5 ow5 gr5 hov5
    obtain ⟨ra, rn, rc, rfl⟩ : ∃ ra rn rc, ov' = .slice ra rn rc := by
     rcases ow5.2 with ⟨e, _⟩ | ⟨_, _, _, e, _⟩
     ·exact ⟨_, _, _, e⟩
     ·exact ⟨_, _, _, e⟩
    have kg5 := grown_keep gr5
    have zg5 := kg5.size
    simp at zg5
    have eq7 := (kg5.cell (b := q) 7 (by simp; omega) (fun e => nov _ e rfl)).trans ((bA.cell (p := ⟨q, 7, none⟩) l4).trans c7)
    have eq2 := (kg5.cell (b := q) 2 (by simp; omega) (fun e => nov _ e rfl)).trans ((bA.cell (p := ⟨q, 2, none⟩) l4).trans c2)
    have ex0 := (kg5.cell (b := w1.heap.size) 0 (by simp; omega) (fun e => nom _ e rfl)).trans ((bA.cell (p := ⟨w1.heap.size, 0, none⟩) lm4).trans x0)
    have ex1 := (kg5.cell (b := w1.heap.size) 1 (by simp; omega) (fun e => nom _ e rfl)).trans ((bA.cell (p := ⟨w1.heap.size, 1, none⟩) lm4).trans x1)
    have fq7 := (kg5.frozen (b := q) 7 (by simp; omega) (fun e => nov _ e rfl)).trans (((Below.keeps (M := fun _ => False) bA).frozen (b := q) 7 l4 id).trans f7)
    refine hK.out _ _ ?_ (fun hHeld => ?_)
    ·try dsimp only
     exact ⟨eq2, ex0, ex1⟩
    clear hK K
    try simp only [Act.put, tS]
    refine wpT (v := ?_) 14 rfl ?_ ?_
    rotate_left
    ·intro w0 hSw
     (try dsimp only at hSw)
     go_simp
     try with_reducible rfl
    try simp only [Act.put, tS]
    refine wpT (v := ?_) 15 rfl ?_ ?_
    rotate_left
    ·intro w0 hSw
     (try dsimp only at hSw)
     go_simp
     try with_reducible rfl
    try simp only [Act.put, tS]
    have kW : Keep (fun i => (Value.slice oa t.heard.length oc).ownBlock = some i) w4 w5 := (Below.keeps bA).trans kg5
    have B5 := HB4.out.b.keep kW HB4.out.qd
    have ks5 := Keep.setCell (M := (· = q)) (Keep.refl _ w5) (p := ⟨q, 7, none⟩) (.inl rfl) (.slice ra rn rc)
    refine wpR 16 rfl fun K hK => ?_
    go_simp
    refine hK.out _ _ ?_ (fun hHeld => ?_)
    ·try dsimp only
     exact ⟨Blk.cell (B5.set 7 (.slice ra rn rc)) 2, (ks5.cell (b := w1.heap.size) 0 (by omega) nqb).trans ex0, (ks5.cell (b := w1.heap.size) 1 (by omega) nqb).trans ex1⟩
    clear hK K
    try simp only [Act.put, tS]
    refine wpAnyH_done (by kernel_rfl) ?_ _
    clear hHeld
    go_wp2_with fail
    go_meet
    refine ⟨fun i => L i ∨ (Value.slice s0 sl sc).ownBlock = some i, .slice ra rn rc, ?_⟩
    rw [HEN.out]
    refine HB4.out.pushH m.cu m.msg.1 m.msg.2 (.slice s0 sl sc) (by show t.heard.length + 1 + t.left.toNat ≤ 1000; omega) ML.out (OwB.rd O4.out) (fun i hi => ?_) es HES.out.1 HES.out.2.2 kW ow5 (hov5.imp id fun h => ⟨_, h, by simp⟩)
    have h1 := FR.out i hi
    have h2 := H.out.k.size
    refine ⟨by omega, by omega, nqs i hi, fun h => by have := H.out.f1 i h; omega, fun h => ?_⟩
    obtain ⟨es', _, h8, _⟩ := H.out.d.hd
    have := World.ownsRow.lt h8 i h
    omega
  case rest =>
   obtain ⟨L', ov', hB⟩ := hcut
   have HB := Lib.hid hB
   clear hB
   by_cases he : m.e = 9
   ·have HEN := Lib.hid (show t.en m = { ({ t.en m with losses := t.losses } : RelT) with losses := t.losses + 1 } by unfold RelT.en; rw [if_pos he])
    rw [he]
    have c8 : wc.cell? ⟨q, 8, none⟩ = some (.int .i64 t.losses) := Blk.cell HB.out.b 8
    have f8 := HB.out.b.frozen 8
    have hs2 := HS.out.2
    have hsm := H.out.d.sm
    have W1 : IntKind.i64.wrap (t.losses + 1) = t.losses + 1 := IntWalk.i64_in _ ⟨by omega, by omega⟩
    have lc := HB.out.b.lt
    go_wp2
    go_end0
    refine ⟨rfl, L', ov', ?_⟩
    rw [HEN.out]
    have D := HB.out.d
    have S := D.sm
    exact HB.out.set1 (t' := { ({ t.en m with losses := t.losses } : RelT) with losses := t.losses + 1 }) 8 (.int .i64 (t.losses + 1)) rfl ⟨D.hd, D.nl, D.ll, D.bb, D.bs, ⟨S.1, by show 0 ≤ t.losses + 1; omega, by show t.losses + 1 + (t.left.toNat : Int) ≤ 1000; omega, S.2.2.2⟩⟩
   ·have HEN := Lib.hid (show t.en m = ({ t.en m with losses := t.losses } : RelT) by unfold RelT.en; rw [if_neg he])
    have he' : (m.e == 9) = false := by simpa using he
    go_wp2_with fail
    go_end0
    exact ⟨rfl, L', ov', by rw [HEN.out]; exact HB.out⟩
 ·have hh' : m.heard = false := by simpa using hh
  have HEN := Lib.hid (show ({ t.en m with losses := t.losses } : RelT) = { t with ear := ⟨m.cu, m.nx, m.la⟩ } by unfold RelT.en HeaM.ear; rw [if_neg hh])
  rw [hh']
  go_upto_if 22 with fail
  go_cut [] from 23 to 38 (fun wx => ∃ L' ov', RelB w0 O0 wx q L' F1 (some m) { t.en m with losses := t.losses } (ptr p) ov')
  case first =>
   go_wp2_with fail
   go_meet
   exact ⟨L, ov, by rw [HEN.out]; exact HB4.out⟩
  case rest =>
   obtain ⟨L', ov', hB⟩ := hcut
   have HB := Lib.hid hB
   clear hB
   by_cases he : m.e = 9
   ·have HEN := Lib.hid (show t.en m = { ({ t.en m with losses := t.losses } : RelT) with losses := t.losses + 1 } by unfold RelT.en; rw [if_pos he])
    rw [he]
    have c8 : wc.cell? ⟨q, 8, none⟩ = some (.int .i64 t.losses) := Blk.cell HB.out.b 8
    have f8 := HB.out.b.frozen 8
    have hs2 := HS.out.2
    have hsm := H.out.d.sm
    have W1 : IntKind.i64.wrap (t.losses + 1) = t.losses + 1 := IntWalk.i64_in _ ⟨by omega, by omega⟩
    have lc := HB.out.b.lt
    go_wp2
    go_end0
    refine ⟨rfl, L', ov', ?_⟩
    rw [HEN.out]
    have D := HB.out.d
    have S := D.sm
    exact HB.out.set1 (t' := { ({ t.en m with losses := t.losses } : RelT) with losses := t.losses + 1 }) 8 (.int .i64 (t.losses + 1)) rfl ⟨D.hd, D.nl, D.ll, D.bb, D.bs, ⟨S.1, by show 0 ≤ t.losses + 1; omega, by show t.losses + 1 + (t.left.toNat : Int) ≤ 1000; omega, S.2.2.2⟩⟩
   ·have HEN := Lib.hid (show t.en m = ({ t.en m with losses := t.losses } : RelT) by unfold RelT.en; rw [if_neg he])
    have he' : (m.e == 9) = false := by simpa using he
    go_wp2_with fail
    go_end0
    exact ⟨rfl, L', ov', by rw [HEN.out]; exact HB.out⟩
end Go.Proofs.YtggjhleomocojaaGreat
