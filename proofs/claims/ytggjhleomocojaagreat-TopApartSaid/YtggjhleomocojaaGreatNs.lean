/- A hear's Result. Conditions: as each says. -/
import Derived.Test.YtggjhleomocojaaGreatNq
namespace Go.Proofs.YtggjhleomocojaaGreat
set_option maxRecDepth 100000
open Go.RowKit
set_option linter.unusedVariables false
set_option linter.unusedSimpArgs false
theorem results_ctt {fn : Func} {p u v : Tmp} {ty : TypeId} (h : fn.results = #[.cell p ty, .tmp u, .tmp v]) (tmps : Array Value) (P : Program) (w : World) :
  (results fn tmps).run P w =
   ((asAddr (tmps.getD p undef)).run P w).andThen fun a w₁ => ((loadVar ty a).run P w₁).andThen fun x w₂ => .ok (.tuple #[x, tmps.getD u undef, tmps.getD v undef]) w₂ := by
 simp only [results, h]
 simp [Sem.run_bind, Result.andThen]
theorem res_msg {fn : Func} {tmps : Array Value} {W : World} {q : Nat} {a : Int} {b c d : Value} (hf : fn.results = #[.cell 2 34, .tmp 3, .tmp 4]) (hp : tmps.getD 2 undef = .pointer (some ⟨q, 0, none⟩)) (h3 : tmps.getD 3 undef = c) (h4 : tmps.getD 4 undef = d)
  (h : Blk W q [.int .i32 a, b]) : (results fn tmps).run Tryz.prog W = .ok (.tuple #[.agg #[.int .i32 a, b], c, d]) W := by
 have c0 := h.cell 0
 have c1 := h.cell 1
 simp only [List.getElem?_cons_zero, List.getElem?_cons_succ] at c0 c1
 clear h
 rw [results_ctt hf, hp, h3, h4]
 go_simp
set_option maxHeartbeats 4000000 in
theorem hResult_any {O R : Nat → Prop} {q : Nat} {m : HeaM} {mv : Value} (w : World) (h : HeaI w O R q m mv) (hl : m.msg.2.length ≤ 70368744177664) :
  Calls Tryz.prog 114 #[.pointer (some ⟨q, 0, none⟩)] w fun e w' => ∃ s0 sl sc, e = .returned (.tuple #[.agg #[.int .i32 m.msg.1, .slice s0 sl sc], .bool m.heard, .int .i64 m.e]) ∧ OwB 5 w.heap.size w' (.slice s0 sl sc) m.msg.2 ∧ Below w.heap.size w w' := by
 have hlt := h.lt
 obtain ⟨c, t, hm⟩ := h.at_.mch
 obtain ⟨_, _, _, _, _, _, _, c14, c15, c16, c17⟩ := hea_cells hm
 have HR := Lib.hid h.rd
 have HL := Lib.hid hl
 clear h hm hl
 go_enter Tryz.func114, Tryz.ntmps114
 go_upto_region 3 with fail
 obtain ⟨w1, hw1⟩ : ∃ w1, w1 = w.alloc (.cells #[.int .i32 0, .slice none 0 0] 34) := ⟨_, rfl⟩
 have b1 : Below w.heap.size w w1 := by rw [hw1]; go_grown
 have X1 := Lib.hid (show Blk w1 w.heap.size [.int .i32 0, .slice none 0 0] by rw [hw1]; exact Blk.made w _ _)
 rw [← hw1]
 have z1 := b1.size
 have l1 := X1.out.lt
 have lq1 : q < w1.heap.size := by omega
 have d14 := (b1.cell (p := ⟨q, 14, none⟩) hlt).trans c14
 have d15 := (b1.cell (p := ⟨q, 15, none⟩) hlt).trans c15
 have d16 := (b1.cell (p := ⟨q, 16, none⟩) hlt).trans c16
 have d17 := (b1.cell (p := ⟨q, 17, none⟩) hlt).trans c17
 have R1 := Lib.hid (HR.out.below b1)
 have B1 := Lib.hid b1
 clear hw1 b1 c14 c15 c16 c17
 refine wp_region_held_drew (S := fun w' => w'.cell? ⟨q, 14, none⟩ = some (.int .i32 m.msg.1) ∧ w'.cell? ⟨q, 15, none⟩ = some mv ∧ w'.cell? ⟨q, 16, none⟩ = some (.bool m.heard) ∧ w'.cell? ⟨q, 17, none⟩ = some (.int .i64 m.e)) (by kernel_rfl) ?_ (fun hHeld => ?_)
 ·try dsimp only
  exact ⟨d14, d15, d16, d17⟩
 refine wpT 0 rfl ?_
 try simp only [Act.put, tS]
 refine wpT 1 rfl ?_
 try simp only [Act.put, tS]
 refine wpT 2 rfl ?_
 try simp only [Act.put, tS]
 refine wpT 3 rfl ?_
 try simp only [Act.put, tS]
 refine wpT 4 rfl ?_
 try simp only [Act.put, tS]
 refine wpT 5 rfl ?_
 try simp only [Act.put, tS]
 refine wpT 6 rfl ?_
 try simp only [Act.put, tS]
 refine wpT 7 rfl ?_
 try simp only [Act.put, tS]
 refine wpT 8 rfl ?_
 try simp only [Act.put, tS]
 refine wpT 9 rfl ?_
 try simp only [Act.put, tS]
 refine wpT 12 rfl ?_
 try simp only [Act.put, tS]
 refine wpT 13 rfl ?_
 try simp only [Act.put, tS]
 refine wpT 14 rfl ?_
 try simp only [Act.put, tS]
 refine wpT 15 rfl ?_
 try simp only [Act.put, tS]
 refine wpT 16 rfl ?_
 try simp only [Act.put, tS]
 refine wpT 17 rfl ?_
 try simp only [Act.put, tS]
 refine wpT 18 rfl ?_
 try simp only [Act.put, tS]
 refine wpT 19 rfl ?_
 try simp only [Act.put, tS]
 refine wpR 10 rfl fun K hK => ?_
 go_simp
 go_at_call 34
 refine (clone_any _ m.msg.2 _ ((R1.out.below (bel_drewN 1 (Below.refl _ _)))) HL.out).mono ?_
 rintro e w2 ⟨s2, rfl, o2, b2⟩
 obtain ⟨a2, n2, c2, rfl⟩ := o2.isSliceC
 have X2 := X1.out.drew.below b2 (by simpa using l1)
 have x20 := X2.cell 0
 have x21 := X2.cell 1
 have f20 := X2.frozen 0
 have f21 := X2.frozen 1
 have z2 := b2.size
 simp at z2
 simp only [List.getElem?_cons_zero, List.getElem?_cons_succ] at x20 x21
 have nq : w.heap.size ≠ q := by omega
 go_wp2_with fail
 refine hK.out _ _ ?_ (fun hHeld => ?_)
 ·try dsimp only
  exact ⟨(b2.cell (p := ⟨q, 14, none⟩) (by simpa using lq1)).trans d14, (b2.cell (p := ⟨q, 15, none⟩) (by simpa using lq1)).trans d15, (b2.cell (p := ⟨q, 16, none⟩) (by simpa using lq1)).trans d16, (b2.cell (p := ⟨q, 17, none⟩) (by simpa using lq1)).trans d17⟩
 clear hK K
 try simp only [Act.put, tS]
 refine wpT 11 rfl ?_
 try simp only [Act.put, tS]
 have KS := Lib.hid (((Keep.refl (· = w.heap.size) w2).setCell (p := ⟨w.heap.size, 0, none⟩) (.inl rfl) (.int .i32 m.msg.1)).setCell (p := ⟨w.heap.size, 1, none⟩) (.inl rfl) (.slice a2 n2 c2))
 refine wpR 20 rfl fun K hK => ?_
 go_simp
 refine hK.out _ _ ?_ (fun hHeld => ?_)
 ·try dsimp only
  exact ⟨(KS.out.cell (b := q) 14 (by omega) (fun e => nq e.symm)).trans ((b2.cell (p := ⟨q, 14, none⟩) (by simpa using lq1)).trans d14), (KS.out.cell (b := q) 15 (by omega) (fun e => nq e.symm)).trans ((b2.cell (p := ⟨q, 15, none⟩) (by simpa using lq1)).trans d15), (KS.out.cell (b := q) 16 (by omega) (fun e => nq e.symm)).trans ((b2.cell (p := ⟨q, 16, none⟩) (by simpa using lq1)).trans d16), (KS.out.cell (b := q) 17 (by omega) (fun e => nq e.symm)).trans ((b2.cell (p := ⟨q, 17, none⟩) (by simpa using lq1)).trans d17)⟩
 clear hK K
 try simp only [Act.put, tS]
 refine wpT 21 rfl ?_
 try simp only [Act.put, tS]
 refine wpT 22 rfl ?_
 try simp only [Act.put, tS]
 refine wpAnyH_done (by kernel_rfl) ?_ _
 clear hHeld
 go_wp2
 refine bodyPost_ret (v := .tuple #[.agg #[.int .i32 m.msg.1, .slice a2 n2 c2], .bool m.heard, .int .i64 m.e]) (res_msg rfl rfl rfl rfl (Blk.drew ((X2.set 0 (.int .i32 m.msg.1)).set 1 (.slice a2 n2 c2)))) rfl ⟨a2, n2, c2, rfl, ?_, ?_⟩
 ·have o3 : OwB 5 w.heap.size w2 (.slice a2 n2 c2) m.msg.2 := o2.mono (by simp; omega)
  have kk : Keep (· = w.heap.size) w2 (((w2.setCell ⟨w.heap.size, 0, none⟩ (.int .i32 m.msg.1)).setCell ⟨w.heap.size, 1, none⟩ (.slice a2 n2 c2))) := KS.out
  refine ownsRow_keep o3 kk (fun i hi e => ?_)
  have := World.ownsRow.lt o2 _ hi
  have e : i = w.heap.size := e
  simp at this
  omega
 ·have b3 : Below w.heap.size w w2 := (bel_drewN 1 B1.out).trans (b2.mono (by show w.heap.size ≤ w1.heap.size; omega))
  exact (b3.setCell (p := ⟨w.heap.size, 0, none⟩) (Nat.le_refl _) _).setCell (p := ⟨w.heap.size, 1, none⟩) (Nat.le_refl _) _
end Go.Proofs.YtggjhleomocojaaGreat
namespace Go.Proofs.YtggjhleomocojaaGreat
set_option maxRecDepth 100000
open Go.RowKit
set_option linter.unusedVariables false
set_option linter.unusedSimpArgs false
def relV (nv : Value) (t : RelT) (ov : Value) : List Value := [.int .i64 t.b, .int .i64 t.s, .int .i64 t.ear.cu, .int .i64 t.ear.nx, .int .i64 t.ear.la, .int .i64 t.left, nv, ov, .int .i64 t.losses]
def hsL (e : (Int × (Int × List Int)) × Value) : List Value := [.int .i64 e.1.1, .int .i32 e.1.2.1, e.2]
def HdIn (w : World) (L : Nat → Prop) (ov : Value) (hs : List (Int × (Int × List Int))) : Prop :=
 ∃ es : List ((Int × (Int × List Int)) × Value), es.map (·.1) = hs ∧ w.ownsRow 0 50 3 ov es.length (es.flatMap hsL) ∧ ∀ e ∈ es, RdB w e.2 e.1.2.2 ∧ e.1.2.2.length ≤ 10000000 ∧ ∀ i, e.2.ownBlock = some i → L i
variable {w w' : World}
theorem HdIn.keep {L K : Nat → Prop} {ov : Value} {hs : List (Int × (Int × List Int))} (h : HdIn w L ov hs) (k : Keep K w w') (h1 : ∀ i, L i → ¬ K i) (h2 : ∀ i, ov.ownBlock = some i → ¬ K i) : HdIn w' L ov hs := by
 obtain ⟨es, e1, e2, e3⟩ := h
 exact ⟨es, e1, ownsRow_keep e2 k h2, fun e he => ⟨(e3 e he).1.keepP k (fun i hi => h1 i ((e3 e he).2.2 i hi)), (e3 e he).2⟩⟩
structure RelD (w : World) (L : Nat → Prop) (t : RelT) (ov : Value) : Prop where
 hd : HdIn w L ov t.heard
 nl : ∀ i, ov.ownBlock = some i → ¬ L i
 ll : ∀ i, L i → i < w.heap.size
 bb : -9223372036854775808 ≤ t.b ∧ t.b ≤ 9223372036854775807
 bs : -9223372036854775808 ≤ t.s ∧ t.s ≤ 9223372036854775807
 sm : t.heard.length + t.left.toNat ≤ 1000 ∧ 0 ≤ t.losses ∧ t.losses + t.left.toNat ≤ 1000 ∧ t.left ≤ 1000
variable {t : RelT}
theorem RelD.keep {L K : Nat → Prop} {ov : Value} (h : RelD w L t ov) (k : Keep K w w') (h1 : ∀ i, L i → ¬ K i) (h2 : ∀ i, ov.ownBlock = some i → ¬ K i) : RelD w' L t ov :=
 ⟨h.hd.keep k h1 h2, h.nl, fun i hi => Nat.lt_of_lt_of_le (h.ll i hi) k.size, h.bb, h.bs, h.sm⟩
def RelN (w : World) (F1 : Nat → Prop) (nv : Value) (cur : Option HeaM) : Prop := match cur with
 | none => nv = .pointer none
 | some m => ∃ p, nv = ptr p ∧ HeaF w F1 p m
variable {cur : Option HeaM}
theorem RelN.keep {F1 K : Nat → Prop} {nv : Value} (h : RelN w F1 nv cur) (k : Keep K w w') (hd : ∀ i, F1 i → ¬ K i) : RelN w' F1 nv cur := by
 cases cur with
 | none => exact h
 | some m =>
  obtain ⟨p, e, h⟩ := h
  exact ⟨p, e, h.keep k hd⟩
structure RelB (w0 : World) (O0 : Nat → Prop) (w : World) (q : Nat) (L F1 : Nat → Prop) (cur : Option HeaM) (t : RelT) (nv ov : Value) : Prop where
 k : Keep O0 w0 w
 b : Blk w q (relV nv t ov)
 d : RelD w L t ov
 c : RelN w F1 nv cur
 nq : ¬ L q ∧ ¬ F1 q
 qd : ov.ownBlock ≠ some q
 f1 : ∀ i, F1 i → i < w.heap.size ∧ ¬ L i ∧ ov.ownBlock ≠ some i
 o : ∀ i, (i = q ∨ L i ∨ ov.ownBlock = some i ∨ F1 i) → O0 i ∨ w0.heap.size ≤ i
variable {O0 : Nat → Prop} {q : Nat} {L F1 : Nat → Prop}
theorem RelB.below {w0 w w' : World} {nv ov : Value} (h : RelB w0 O0 w q L F1 cur t nv ov) (b : Below w.heap.size w w') : RelB w0 O0 w' q L F1 cur t nv ov :=
 have k : Keep (fun _ => False) w w' := Below.keeps b
 ⟨h.k.trans (Below.keeps b), h.b.below b h.b.lt, h.d.keep k (fun _ _ => id) (fun _ _ => id), h.c.keep k (fun _ _ => id), h.nq, h.qd, fun i hi => ⟨Nat.lt_of_lt_of_le (h.f1 i hi).1 b.size, (h.f1 i hi).2⟩, h.o⟩
theorem RelB.set {w0 w : World} {L F1 F1' : Nat → Prop} {cur cur' : Option HeaM} {t t' : RelT} {nv nv' ov : Value} (h : RelB w0 O0 w q L F1 cur t nv ov) (i : Nat) (v : Value) (hv : (relV nv t ov).set i v = relV nv' t' ov)
  (hd : RelD w L t' ov) (hc : RelN w F1' nv' cur') (h1 : ¬ F1' q) (h2 : ∀ i, F1' i → i < w.heap.size ∧ ¬ L i ∧ ov.ownBlock ≠ some i) (h3 : ∀ i, F1' i → O0 i ∨ w0.heap.size ≤ i) : RelB w0 O0 (w.setCell ⟨q, i, none⟩ v) q L F1' cur' t' nv' ov := by
 have ks : Keep (fun i => i = q) w (w.setCell ⟨q, i, none⟩ v) := (Keep.refl (fun i => i = q) w).setCell (p := ⟨q, i, none⟩) (.inl rfl) _
 have hz := ks.size
 refine ⟨h.k.then ks (fun i hi e => ?_), hv ▸ h.b.set i v, hd.keep ks (fun i hi e => h.nq.1 (e ▸ hi)) (fun i hi e => h.qd (e ▸ hi)), hc.keep ks (fun i hi e => h1 (e ▸ hi)), ⟨h.nq.1, h1⟩, h.qd, fun i hi => ⟨Nat.lt_of_lt_of_le (h2 i hi).1 hz, (h2 i hi).2⟩, fun i hi => ?_⟩
 ·rcases h.o i (.inl e) with h9 | h9
  ·exact h9
  ·omega
 ·rcases hi with hi | hi | hi | hi
  ·exact h.o i (.inl hi)
  ·exact h.o i (.inr (.inl hi))
  ·exact h.o i (.inr (.inr (.inl hi)))
  ·exact h3 i hi
theorem RelB.set1 {w0 w : World} {t t' : RelT} {nv ov : Value} (h : RelB w0 O0 w q L F1 cur t nv ov) (i : Nat) (v : Value) (hv : (relV nv t ov).set i v = relV nv t' ov)
  (hd : RelD w L t' ov) : RelB w0 O0 (w.setCell ⟨q, i, none⟩ v) q L F1 cur t' nv ov := h.set i v hv hd h.c h.nq.2 h.f1 (fun i hi => h.o i (.inr (.inr (.inr hi))))
theorem RelB.pushH {w0 w w4 : World} {nv ov v4 : Value} (h : RelB w0 O0 w q L F1 cur t nv ov) (at_ typ : Int) (l : List Int) (sv : Value) (hs : t.heard.length + 1 + t.left.toNat ≤ 1000) (hl : l.length ≤ 10000000) (hr : RdB w sv l)
  (hsv : ∀ i, sv.ownBlock = some i → i < w.heap.size ∧ w0.heap.size ≤ i ∧ i ≠ q ∧ ¬ F1 i ∧ ov.ownBlock ≠ some i) (es : List ((Int × (Int × List Int)) × Value)) (he1 : es.map (·.1) = t.heard) (he3 : ∀ e ∈ es, RdB w e.2 e.1.2.2 ∧ e.1.2.2.length ≤ 10000000 ∧ ∀ i, e.2.ownBlock = some i → L i)
  (k : Keep (fun i => ov.ownBlock = some i) w w4) (o : w4.ownsRow 0 50 3 v4 (t.heard.length + 1) (es.flatMap hsL ++ [.int .i64 at_, .int .i32 typ, sv])) (ho : v4.ownBlock = ov.ownBlock ∨ ∃ i, v4.ownBlock = some i ∧ w.heap.size ≤ i) :
  RelB w0 O0 (w4.setCell ⟨q, 7, none⟩ v4) q (fun i => L i ∨ sv.ownBlock = some i) F1 cur { t with heard := t.heard ++ [(at_, (typ, l))] } nv v4 := by
 have hq := h.b.lt
 have hob : ∀ i, i < w.heap.size → v4.ownBlock = some i → ov.ownBlock = some i := fun i hi hv => by
  rcases ho with e | ⟨j, e, hj⟩
  ·exact e ▸ hv
  ·rw [e] at hv
   cases hv
   omega
 have hoo : ∀ i, v4.ownBlock = some i → O0 i ∨ w0.heap.size ≤ i := fun i hv => by
  rcases ho with e | ⟨j, e, hj⟩
  ·exact h.o i (.inr (.inr (.inl (e ▸ hv))))
  ·rw [e] at hv
   cases hv
   exact .inr (Nat.le_trans h.k.size hj)
 have ks : Keep (fun i => i = q) w4 (w4.setCell ⟨q, 7, none⟩ v4) := (Keep.refl (fun i => i = q) w4).setCell (p := ⟨q, 7, none⟩) (.inl rfl) _
 have hz := Nat.le_trans k.size ks.size
 have hq4 : v4.ownBlock ≠ some q := fun e => h.qd (hob q hq e)
 have hL : ∀ i, (L i ∨ sv.ownBlock = some i) → ¬ v4.ownBlock = some i := fun i hi e => by
  rcases hi with hi | hi
  ·exact h.d.nl i (hob i (h.d.ll i hi) e) hi
  ·exact (hsv i hi).2.2.2.2 (hob i (hsv i hi).1 e)
 refine ⟨(h.k.then k (fun i hi e => ?_)).then ks (fun i hi e => ?_), (h.b.keep k h.qd).set 7 v4, ?_, (h.c.keep k (fun i hi e => (h.f1 i hi).2.2 e)).keep ks (fun i hi e => h.nq.2 (e ▸ hi)), ⟨?_, h.nq.2⟩, hq4, fun i hi => ⟨Nat.lt_of_lt_of_le (h.f1 i hi).1 hz, ?_, fun e => (h.f1 i hi).2.2 (hob i (h.f1 i hi).1 e)⟩, fun i hi => ?_⟩
 ·rcases h.o i (.inr (.inr (.inl e))) with h9 | h9
  ·exact h9
  ·omega
 ·rcases h.o i (.inl e) with h9 | h9
  ·exact h9
  ·omega
 ·refine ⟨⟨es ++ [((at_, (typ, l)), sv)], by rw [List.map_append, he1]; rfl, ?_, fun e he => ?_⟩, fun i e hi => hL i hi e, fun i hi => ?_, h.d.bb, h.d.bs, ⟨by simp only [List.length_append, List.length_singleton]; exact hs, h.d.sm.2⟩⟩
  ·have := ownsRow_keep o ks (fun i hi e => hq4 (e ▸ hi))
   have e1 : (es ++ [((at_, (typ, l)), sv)]).length = t.heard.length + 1 := by
    rw [List.length_append, ← he1, List.length_map]
    rfl
   have e2 : (es ++ [((at_, (typ, l)), sv)]).flatMap hsL = es.flatMap hsL ++ [.int .i64 at_, .int .i32 typ, sv] := by
    rw [List.flatMap_append]
    rfl
   rw [e1, e2]
   exact this
  ·rcases List.mem_append.1 he with he | he
   ·obtain ⟨r1, r2, r3⟩ := he3 e he
    exact ⟨(r1.keepP k (fun i hi e => h.d.nl i e (r3 i hi))).keepP ks (fun i hi e => h.nq.1 (e ▸ r3 i hi)), r2, fun i hi => .inl (r3 i hi)⟩
   ·obtain rfl := List.mem_singleton.1 he
    exact ⟨(hr.keepP k (fun i hi e => (hsv i hi).2.2.2.2 e)).keepP ks (fun i hi e => (hsv i hi).2.2.1 e), hl, fun i hi => .inr hi⟩
  ·rcases hi with hi | hi
   ·exact Nat.lt_of_lt_of_le (h.d.ll i hi) hz
   ·exact Nat.lt_of_lt_of_le (hsv i hi).1 hz
 ·rintro (hi | hi)
  ·exact h.nq.1 hi
  ·exact (hsv q hi).2.2.1 rfl
 ·rintro (h9 | h9)
  ·exact (h.f1 i hi).2.1 h9
  ·exact (hsv i h9).2.2.2.1 hi
 ·rcases hi with hi | (hi | hi) | hi | hi
  ·exact h.o i (.inl hi)
  ·exact h.o i (.inr (.inl hi))
  ·exact .inr (hsv i hi).2.1
  ·exact hoo i hi
  ·exact h.o i (.inr (.inr (.inr hi)))
end Go.Proofs.YtggjhleomocojaaGreat
