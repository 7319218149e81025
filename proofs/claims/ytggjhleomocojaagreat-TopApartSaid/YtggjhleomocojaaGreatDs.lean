/- Messages in memory: they may be read; appended to one another. Conditions: as each says. -/
import Derived.Test.YtggjhleomocojaaGreatDd
import Derived.Test.YtggjhleomocojaaGreatGp
import Derived.Deep.RegionHeld3
namespace Go.Proofs.YtggjhleomocojaaGreat
set_option maxRecDepth 100000
open Go.RowKit
set_option linter.unusedVariables false
set_option linter.unusedSimpArgs false
variable {w : World}
theorem MsIn.ms_cell2 {O R : Nat → Prop} {v : Value} {l : List (Int × List Int)} (h : MsIn w O R v l) {k : Nat} {t : Int} {d : List Int} (hk : l[k]? = some (t, d)) : ∃ g c s0 sl sc, v = .slice (some ⟨g, 0, none⟩) l.length c ∧ w.cell? ⟨g, k * 2, none⟩ = some (.int .i32 t) ∧ w.cell? ⟨g, k * 2 + 1, none⟩ = some (.slice s0 sl sc) ∧ RdB w (.slice s0 sl sc) d := by
 obtain ⟨⟨es, he, ho, hes⟩, _⟩ := h
 have hkl : k < l.length := (List.getElem?_eq_some_iff.1 hk).1
 have hel : es.length = l.length := by rw [← he, List.length_map]
 obtain ⟨e, hek⟩ : ∃ e, es[k]? = some e := ⟨_, List.getElem?_eq_getElem (by omega)⟩
 have h1 : e.1 = (t, d) := by
  rw [← he, List.getElem?_map, hek] at hk
  exact Option.some.inj hk
 obtain ⟨h2, _⟩ := hes e (List.mem_of_getElem? hek)
 obtain ⟨m1, m2⟩ := ms_at es k e hek
 obtain ⟨e1, e2⟩ := e
 dsimp only at h1 h2 m1 m2
 subst h1
 obtain ⟨sa, sl, sc, rfl⟩ := h2.isSl
 rcases ho.2 with ⟨_, h0⟩ | ⟨g, cap, cur, rfl, _⟩
 ·omega
 ·refine ⟨g, cap, sa, sl, sc, by rw [hel], ?_, ?_, h2⟩
  ·rw [World.ownsRow.cellAt ho _ (by omega), m1]
  ·rw [World.ownsRow.cellAt ho _ (by omega), m2]
theorem MsIn.none2 (w : World) (O R : Nat → Prop) : MsIn w O R (.slice none 0 0) [] := ⟨⟨[], rfl, World.ownsRow_nil _ _ _ _, fun e he => (List.not_mem_nil he).elim⟩, fun i hi => by cases hi⟩
variable {ops : Array Oper} {o : Oper} {a : Act} {Q : Exit → Act → World → Prop}
theorem list_appMs2 {rest : List Oper} (hgd : o.guard = none) (s x : Operand)
  (ho : o.op = .call { callee := .builtin .append, args := #[s, x], argTypes := #[22, 22] }) {O R O2 R2 : Nat → Prop} {v v2 : Value} {l l2 : List (Int × List Int)} (hs : a.eval s = v) (hx : a.eval x = v2) (h1 : MsIn w O R v l) (h2 : MsIn w O2 R2 v2 l2) (hn : l.length + l2.length ≤ 100000) (hd : ∀ i, O i ∨ O2 i → ¬ R i)
  (h : ∀ v' w', MsIn w' (fun i => O i ∨ O2 i) (fun i => R i ∨ (w.heap.size ≤ i ∧ i < w'.heap.size)) v' (l ++ l2) → Keep R w w' → wpList Tryz.prog ops Q rest (a.put o.dst v') w') : wpList Tryz.prog ops Q (o :: rest) a w := by
 obtain ⟨i0, hi, hz0, hz1, hz2⟩ := info_parts msinfo
 obtain ⟨⟨es, he, ho1, hes⟩, hr⟩ := h1
 obtain ⟨⟨es2, he2, ho2, hes2⟩, hr2⟩ := h2
 have hel : es.length = l.length := by rw [← he, List.length_map]
 have hel2 : es2.length = l2.length := by rw [← he2, List.length_map]
 rcases ho2.2 with ⟨rfl, h0⟩ | ⟨g, cap, cur, rfl, _⟩
 ·have e0 : es2 = [] := List.eq_nil_of_length_eq_zero h0
  have el : l2 = [] := by rw [← he2, e0]; rfl
  refine wpList_plain hgd fun _ hK => ?_
  have hr' := run_append_owned_none (P := Tryz.prog) w 0 22 o.type 34 i0 2 Tryz.underlying22 hi v es.length _ ho1
  unfold Oper.wp execOp
  simp only [ho, resolve, invoke, builtin, Sem.run_bind, Sem.run_pure, Result.andThen_ok, List.map_toArray, List.map_cons, List.map_nil, hs, hx, hr']
  refine hK _ _ (h _ _ ⟨⟨es, by rw [el, List.append_nil]; exact he, ho1, fun e hm => ⟨(hes e hm).1, fun i hi => .inl ((hes e hm).2 i hi)⟩⟩, fun i hi => .inl (hr i hi)⟩ (Keep.refl _ _))
 ·have hnews : ∀ j u, (es2.flatMap msL)[j]? = some u → w.cell? ⟨g, j, none⟩ = some u := by
   intro j u hu
   have hj : j < es2.length * 2 := by have := (List.getElem?_eq_some_iff.1 hu).1; rwa [msL_flat] at this
   rw [World.ownsRow.cellAt ho2 j hj]
   exact hu
  refine list_appN hgd s x 22 34 ho Tryz.underlying22 hi hz0 hz1 hz2 rfl (by decide) v es.length _ hs ho1 g es2.length cap (es2.flatMap msL) hx hnews (msL_flat es2) (ones_ms es2 w fun e he => (hes2 e he).1) (by omega) (by unfold maxLen; omega) ?_
  intro v' w' o3 g3 e3
  have K3 : Keep R w w' := (grown_keep g3).mono (fun i _ hi => hr i hi)
  refine h v' w' ⟨⟨es ++ es2, by rw [List.map_append, he, he2], by rw [List.length_append, List.flatMap_append]; exact o3, fun e hm => ?_⟩, fun i hi => ?_⟩ K3
  ·rcases List.mem_append.1 hm with hm | hm
   ·exact ⟨(hes e hm).1.keepP K3 (fun i hi => hd i (.inl ((hes e hm).2 i hi))), fun i hi => .inl ((hes e hm).2 i hi)⟩
   ·exact ⟨(hes2 e hm).1.keepP K3 (fun i hi => hd i (.inr ((hes2 e hm).2 i hi))), fun i hi => .inr ((hes2 e hm).2 i hi)⟩
  ·rcases e3 with e | e
   ·rw [e] at hi
    exact .inl (hr i hi)
   ·have hlt := (World.ownsRow.lt o3 i hi).2
    rw [e] at hi
    cases hi
    exact .inr ⟨Nat.le_refl _, hlt⟩
theorem MsIn.rdms {O R : Nat → Prop} {v : Value} {l : List (Int × List Int)} (h : MsIn w O R v l) (hR : ∀ i, R i → i < w.heap.size) : RdMs w (fun i => O i ∨ R i) v l := by
 obtain ⟨a, c, e⟩ := h.sl
 have h0 := h
 obtain ⟨⟨es, he, ho, hes⟩, hr⟩ := h
 have hel : es.length = l.length := by rw [← he, List.length_map]
 rcases ho.2 with ⟨e1, e0⟩ | ⟨g, cap, cur, e1, e2, e3, e4, e5, e6, e7⟩
 ·exact .inl ⟨none, 0, e1, List.eq_nil_of_length_eq_zero (by omega), Nat.zero_le _⟩
 ·have hg : R g := hr g (by rw [e1]; rfl)
  refine .inr ⟨g, 0, cap, by rw [e1, hel], by omega, e5, .inr hg, hR g hg, fun i x hx => ?_⟩
  have hil : i < l.length := (List.getElem?_eq_some_iff.1 hx).1
  obtain ⟨en, hek⟩ : ∃ en, es[i]? = some en := ⟨_, List.getElem?_eq_getElem (by omega)⟩
  have h1 : en.1 = x := by
   rw [← he, List.getElem?_map, hek] at hx
   exact Option.some.inj hx
  obtain ⟨h2, h3⟩ := hes en (List.mem_of_getElem? hek)
  obtain ⟨m1, m2⟩ := ms_at es i en hek
  obtain ⟨en1, en2⟩ := en
  dsimp only at h1 h2 h3 m1 m2
  subst h1
  obtain ⟨sa, sl, sc, rfl⟩ := h2.isSl
  subst e1
  refine ⟨sa, sl, sc, ?_, ?_, h2, fun _ j hj => .inl (h3 j hj)⟩
  ·rw [Nat.zero_add, World.ownsRow.cellAt ho _ (by omega), m1]
  ·rw [Nat.zero_add, World.ownsRow.cellAt ho _ (by omega), m2]
theorem step_appMs1 {K : Act → World → Prop} {E0 : Prop} (hgd : o.guard = none) (s x : Operand)
  (ho : o.op = .call { callee := .builtin .append, args := #[s, x], argTypes := #[22, 22] }) {O R O2 : Nat → Prop} {v dv : Value} {l : List (Int × List Int)} {t : Int} {d : List Int} (hs : a.eval s = v) (g : Nat) (hx : a.eval x = .slice (some ⟨g, 0, none⟩) 1 1) (hb : Blk w g [.int .i32 t, dv]) (h1 : MsIn w O R v l) (h2 : RdB w dv d) (h3 : ∀ i, dv.ownBlock = some i → O2 i) (hn : l.length + 1 ≤ 100000) (hd : ∀ i, O i ∨ O2 i → ¬ R i)
  (h : ∀ v' w', MsIn w' (fun i => O i ∨ O2 i) (fun i => R i ∨ (w.heap.size ≤ i ∧ i < w'.heap.size)) v' (l ++ [(t, d)]) → Keep R w w' → K (a.put o.dst v') w') :
  if Region.wanted o (yielded ops a.tmps) = true then Oper.wp Tryz.prog o a w K Q else E0 := by
 obtain ⟨i0, hi, hz0, hz1, hz2⟩ := info_parts msinfo
 obtain ⟨⟨es, he, ho1, hes⟩, hr⟩ := h1
 have hel : es.length = l.length := by rw [← he, List.length_map]
 obtain ⟨sa, sl, sc, rfl⟩ := h2.isSl
 refine step_app1 hgd s x 22 34 ho Tryz.underlying22 hi hz0 hz1 hz2 rfl (by decide) v es.length (es.flatMap msL) hs ho1 g [.int .i32 t, .slice sa sl sc] hx hb rfl (by intro u hu; simp at hu; rcases hu with rfl | rfl <;> rfl) (by omega) (by unfold maxLen; omega) ?_
 intro v' w' o3 g3 e3
 have K3 : Keep R w w' := (grown_keep g3).mono (fun i _ hi => hr i hi)
 refine h v' w' ⟨⟨es ++ [((t, d), .slice sa sl sc)], by rw [List.map_append, he]; rfl, by rw [List.length_append, List.flatMap_append]; exact o3, fun e hm => ?_⟩, fun i hi => ?_⟩ K3
 ·rcases List.mem_append.1 hm with hm | hm
  ·exact ⟨(hes e hm).1.keepP K3 (fun i hi => hd i (.inl ((hes e hm).2 i hi))), fun i hi => .inl ((hes e hm).2 i hi)⟩
  ·obtain rfl : e = ((t, d), .slice sa sl sc) := by simpa using hm
   exact ⟨h2.keepP K3 (fun i hi => hd i (.inr (h3 i hi))), fun i hi => .inr (h3 i hi)⟩
 ·rcases e3 with e | e
  ·rw [e] at hi
   exact .inl (hr i hi)
  ·have hlt := (World.ownsRow.lt o3 i hi).2
   rw [e] at hi
   cases hi
   exact .inr ⟨Nat.le_refl _, hlt⟩
theorem step_appMs {K : Act → World → Prop} {E0 : Prop} (hgd : o.guard = none) (s x : Operand)
  (ho : o.op = .call { callee := .builtin .append, args := #[s, x], argTypes := #[22, 22] }) {O R O2 R2 : Nat → Prop} {v v2 : Value} {l l2 : List (Int × List Int)} (hs : a.eval s = v) (hx : a.eval x = v2) (h1 : MsIn w O R v l) (h2 : MsIn w O2 R2 v2 l2) (hn : l.length + l2.length ≤ 100000) (hd : ∀ i, O i ∨ O2 i → ¬ R i)
  (h : ∀ v' w', MsIn w' (fun i => O i ∨ O2 i) (fun i => R i ∨ (w.heap.size ≤ i ∧ i < w'.heap.size)) v' (l ++ l2) → Keep R w w' → K (a.put o.dst v') w') :
  if Region.wanted o (yielded ops a.tmps) = true then Oper.wp Tryz.prog o a w K Q else E0 := by
 have hw : Region.wanted o (yielded ops a.tmps) = true := by simp [Region.wanted, hgd]
 rw [if_pos hw]
 obtain ⟨i0, hi, hz0, hz1, hz2⟩ := info_parts msinfo
 obtain ⟨⟨es, he, ho1, hes⟩, hr⟩ := h1
 obtain ⟨⟨es2, he2, ho2, hes2⟩, hr2⟩ := h2
 have hel : es.length = l.length := by rw [← he, List.length_map]
 have hel2 : es2.length = l2.length := by rw [← he2, List.length_map]
 rcases ho2.2 with ⟨rfl, h0⟩ | ⟨g, cap, cur, rfl, _⟩
 ·have e0 : es2 = [] := List.eq_nil_of_length_eq_zero h0
  have el : l2 = [] := by rw [← he2, e0]; rfl
  have hr' := run_append_owned_none (P := Tryz.prog) w 0 22 o.type 34 i0 2 Tryz.underlying22 hi v es.length _ ho1
  unfold Oper.wp execOp
  simp only [ho, resolve, invoke, builtin, Sem.run_bind, Sem.run_pure, Result.andThen_ok, List.map_toArray, List.map_cons, List.map_nil, hs, hx, hr']
  exact h _ _ ⟨⟨es, by rw [el, List.append_nil]; exact he, ho1, fun e hm => ⟨(hes e hm).1, fun i hi => .inl ((hes e hm).2 i hi)⟩⟩, fun i hi => .inl (hr i hi)⟩ (Keep.refl _ _)
 ·have hnews : ∀ j u, (es2.flatMap msL)[j]? = some u → w.cell? ((⟨g, 0, none⟩ : Addr).add j) = some u := by
   intro j u hu
   have e : (⟨g, 0, none⟩ : Addr).add j = ⟨g, 0 + j, none⟩ := by unfold Addr.add; split <;> simp_all
   have hj : j < es2.length * 2 := by have := (List.getElem?_eq_some_iff.1 hu).1; rwa [msL_flat] at this
   rw [e, Nat.zero_add, World.ownsRow.cellAt ho2 j hj]
   exact hu
  obtain ⟨v', w', hrn, o3, g3, _, e3⟩ := run_append_own_at (P := Tryz.prog) w 0 22 o.type 34 i0 _ 2 32 Tryz.underlying22 hi hz0 hz1 hz2 rfl (by decide) v es.length _ ho1 ⟨g, 0, none⟩ es2.length cap (es2.flatMap msL) (msL_flat es2) hnews (ones_ms es2 w fun e he => (hes2 e he).1) (by unfold maxLen; omega) (by omega) (Nat.zero_le _)
  unfold Oper.wp execOp
  simp only [ho, resolve, invoke, builtin, Sem.run_bind, Sem.run_pure, Result.andThen_ok, List.map_toArray, List.map_cons, List.map_nil, hs, hx, hrn]
  have K3 : Keep R w w' := (grown_keep g3).mono (fun i _ hi => hr i hi)
  refine h v' w' ⟨⟨es ++ es2, by rw [List.map_append, he, he2], by rw [List.length_append, List.flatMap_append]; exact o3, fun e hm => ?_⟩, fun i hi => ?_⟩ K3
  ·rcases List.mem_append.1 hm with hm | hm
   ·exact ⟨(hes e hm).1.keepP K3 (fun i hi => hd i (.inl ((hes e hm).2 i hi))), fun i hi => .inl ((hes e hm).2 i hi)⟩
   ·exact ⟨(hes2 e hm).1.keepP K3 (fun i hi => hd i (.inr ((hes2 e hm).2 i hi))), fun i hi => .inr ((hes2 e hm).2 i hi)⟩
  ·rcases e3 with e | e
   ·rw [e] at hi
    exact .inl (hr i hi)
   ·have hlt := (World.ownsRow.lt o3 i hi).2
    rw [e] at hi
    cases hi
    exact .inr ⟨Nat.le_refl _, hlt⟩
theorem gMessages_f {F : Nat → Prop} {q : Nat} {m : GetM} (w : World) (h : GetF w F q m) :
  Calls Tryz.prog 33 #[.pointer (some ⟨q, 0, none⟩)] w fun e w' => ∃ v, e = .returned v ∧ MsIn w' (fun i => w.heap.size ≤ i ∧ i < w'.heap.size) (fun i => w.heap.size ≤ i) v m.out ∧ Below w.heap.size w w' := by
 obtain ⟨_, _, hf, O, R, ov, hO, hI⟩ := h
 exact gMessages_at w hI (by have := hf.lo; omega) (fun x hx => by have := hf.ds x hx; omega)
end Go.Proofs.YtggjhleomocojaaGreat
section
namespace Go.Proofs.YtggjhleomocojaaGreat
set_option maxRecDepth 100000
open Go.RowKit
set_option linter.unusedVariables false
set_option linter.unusedSimpArgs false
structure DraT where
 b : Int
 s : Int
 times : Int
 most : Int
 out : List (Int × List Int)
def DraT.mo (t : DraT) : Option GetM × DraT := if t.times < 1 then (none, t) else (some (GetC.init ⟨t.b, t.s, t.most⟩), { t with times := t.times - 1 })
def draC : ChP getMac where
 τ := DraT
 mo := DraT.mo
 en := fun m t => { t with out := t.out ++ m.out }
 fu := fun t => t.times.toNat + 2
 ok := fun t => (t.out.length : Int) + 1024 * max t.times 0 ≤ 65536
def getFamS : Fam where
 M := getMac
 inv := fun w F q s => GetF w F q s
 ty := fun _ => 95
 fn := fun _ => 212
 ft := fun _ => 213
 mn := fun _ b w => gM_next b w
 mt := fun _ b w => gM_take b w
 en := fun _ args w => engN args w
 et := fun _ args w => engT args w
 ts := fun _ _ => rfl
 dom := fun h => ⟨h.1, h.2.1⟩
 mono := fun h h1 h2 => h.mono h1 h2
 keep := fun h k hd => h.keep k hd
 wf := fun {w F q s} h => h.2.2.1.wf
 next := fun {w F q s} h => by
  obtain ⟨_, _, hf, O, R, ov, hO, hI⟩ := h
  exact gNext_any w hI hf
 take := fun {w F q s x s0 sl sc} h hl hx hr => (getFam.take (s := (q, s)) ⟨rfl, h⟩ hl hx hr).mono (by
  rintro e w' ⟨rfl, F', h1, h2, h3⟩
  exact ⟨rfl, F', h1.2, h2, h3⟩)
variable {m : GetM}
theorem get_xan {x : AN} (hx : AN.ok m.want x) : inU x.v ∧ x.b.length ≤ 1000 := by
 refine ⟨⟨hx.v0, hx.v1⟩, ?_⟩
 by_cases hk : m.want.k = 5
 ·have h1 := hx.rd hk
  have h2 : m.want.n ≤ 8 := GetM.want_small hk
  omega
 ·rw [hx.no hk]
  simp
def draV (q bx : Nat) (nv : Value) (g : Bool) (t : DraT) (ov : Value) : List Value :=
 [nv, .func (.func 44) #[ptr q] #[], .func (.func 45) #[] #[ptr bx], .bool g, .int .i64 t.b, .int .i64 t.s, .int .i64 t.times, .int .i64 t.most, ov]
def DraN (w : World) (F1 : Nat → Prop) (nv : Value) (cur : Option GetM) : Prop := match cur with
 | none => nv = .pointer none
 | some m => ∃ p, nv = ptr p ∧ GetF w F1 p m
variable {cur : Option GetM}
theorem DraN.keep {w w' : World} {F1 K : Nat → Prop} {nv : Value} (h : DraN w F1 nv cur) (k : Keep K w w') (hd : ∀ i, F1 i → ¬ K i) : DraN w' F1 nv cur := by
 cases cur with
 | none => exact h
 | some m =>
  obtain ⟨p, e, h⟩ := h
  exact ⟨p, e, h.keep k hd⟩
structure DraP (w : World) (q bx : Nat) (O R F1 : Nat → Prop) (cur : Option GetM) (t : DraT) (nv ov : Value) : Prop where
 blk : Blk w q (draV q bx nv cur.isSome t ov)
 box : Blk w bx [ptr q]
 ms : MsIn w O R ov t.out
 c : DraN w F1 nv cur
 bd : t.times ≤ 64 ∧ (t.out.length : Int) + 1024 * max t.times 0 ≤ 66560
 ds : ∀ x ∈ t.out, x.2.length ≤ 9000000
 bb : -9223372036854775808 ≤ t.b ∧ t.b ≤ 9223372036854775807
 bs : -9223372036854775808 ≤ t.s ∧ t.s ≤ 9223372036854775807
 lt : ∀ i, O i ∨ R i ∨ F1 i → i < w.heap.size ∧ i ≠ q ∧ i ≠ bx
 dj : ∀ i, O i → ¬ R i
 df : ∀ i, F1 i → ¬ O i ∧ ¬ R i
 ne : bx ≠ q
def DraO (q bx : Nat) (O R F1 : Nat → Prop) : Nat → Prop := fun i => i = q ∨ i = bx ∨ O i ∨ R i ∨ F1 i
variable {q bx : Nat} {t : DraT} {nv ov : Value}
theorem DraP.keep {w w' : World} {O R F1 K : Nat → Prop} (h : DraP w q bx O R F1 cur t nv ov) (k : Keep K w w') (hd : ∀ i, DraO q bx O R F1 i → ¬ K i) : DraP w' q bx O R F1 cur t nv ov :=
 ⟨h.blk.keep k (hd q (.inl rfl)), h.box.keep k (hd bx (.inr (.inl rfl))), h.ms.keep k (fun i hi => hd i (.inr (.inr (.inl hi)))) (fun i hi => hd i (.inr (.inr (.inr (.inl hi))))), h.c.keep k (fun i hi => hd i (.inr (.inr (.inr (.inr hi))))), h.bd, h.ds, h.bb, h.bs, fun i hi => ⟨Nat.lt_of_lt_of_le (h.lt i hi).1 k.size, (h.lt i hi).2⟩, h.dj, h.df, h.ne⟩
variable {O R F1 : Nat → Prop}
theorem DraP.below {w w' : World} (h : DraP w q bx O R F1 cur t nv ov) (b : Below w.heap.size w w') : DraP w' q bx O R F1 cur t nv ov :=
 h.keep (K := fun _ => False) (Below.keeps b) (fun _ _ => id)
variable {w : World}
theorem DraP.sz (h : DraP w q bx O R F1 cur t nv ov) : ∀ i, DraO q bx O R F1 i → i < w.heap.size := by
 rintro i (hi | hi | hi | hi | hi)
 ·exact hi ▸ h.blk.lt
 ·exact hi ▸ h.box.lt
 ·exact (h.lt i (.inl hi)).1
 ·exact (h.lt i (.inr (.inl hi))).1
 ·exact (h.lt i (.inr (.inr hi))).1
theorem DraP.set {O R F1 F2 : Nat → Prop} {cur cur' : Option GetM} {t t' : DraT} {nv nv' ov : Value} (h : DraP w q bx O R F1 cur t nv ov) {w' : World} (ks : Keep (fun i => i = q) w w') (hb : Blk w' q (draV q bx nv' cur'.isSome t' ov)) (hc : DraN w F2 nv' cur') (ht : t'.out = t.out ∧ t'.b = t.b ∧ t'.s = t.s ∧ t'.times ≤ t.times)
  (hF : ∀ i, F2 i → i < w.heap.size ∧ i ≠ q ∧ i ≠ bx ∧ ¬ O i ∧ ¬ R i) : DraP w' q bx O R F2 cur' t' nv' ov := by
 obtain ⟨e1, e2, e3, e4⟩ := ht
 have hbd := h.bd
 exact ⟨hb, h.box.keep ks h.ne, e1 ▸ h.ms.keep ks (fun i hi => (h.lt i (.inl hi)).2.1) (fun i hi => (h.lt i (.inr (.inl hi))).2.1), hc.keep ks (fun i hi => (hF i hi).2.1), ⟨by omega, by rw [e1]; omega⟩, e1 ▸ h.ds, e2 ▸ h.bb, e3 ▸ h.bs, fun i hi => by
  refine ⟨Nat.lt_of_lt_of_le ?_ ks.size, ?_⟩
  ·rcases hi with hi | hi | hi
   ·exact (h.lt i (.inl hi)).1
   ·exact (h.lt i (.inr (.inl hi))).1
   ·exact (hF i hi).1
  ·rcases hi with hi | hi | hi
   ·exact (h.lt i (.inl hi)).2
   ·exact (h.lt i (.inr (.inl hi))).2
   ·exact ⟨(hF i hi).2.1, (hF i hi).2.2.1⟩, h.dj, fun i hi => (hF i hi).2.2.2, h.ne⟩
theorem enDraMore : En 44 := enters_of Tryz.func44 (by kernel_rfl) rfl
theorem enDraEnded : En 45 := enters_of Tryz.func45 (by kernel_rfl) rfl
set_option maxHeartbeats 2000000 in
theorem draMore_any (h : DraP w q bx O R F1 cur t nv ov) :
  Calls Tryz.prog 44 #[ptr q] w fun e w' => Keep (fun i => i = q) w w' ∧ DraP w' q bx O R F1 cur t.mo.2 nv ov ∧ ((t.mo.1 = none ∧ e = .returned (.tuple #[.pointer none, .bool false])) ∨ ∃ m p, t.mo.1 = some m ∧ e = .returned (.tuple #[ptr p, .bool true]) ∧ GetF w' (fun i => w.heap.size ≤ i ∧ i < w'.heap.size) p m ∧ (t.mo.2.out.length : Int) + 1024 * max t.mo.2.times 0 ≤ 65536) := by
 have c4 : w.cell? ⟨q, 4, none⟩ = some (.int .i64 t.b) := Blk.cell h.blk 4
 have c5 : w.cell? ⟨q, 5, none⟩ = some (.int .i64 t.s) := Blk.cell h.blk 5
 have c6 : w.cell? ⟨q, 6, none⟩ = some (.int .i64 t.times) := Blk.cell h.blk 6
 have c7 : w.cell? ⟨q, 7, none⟩ = some (.int .i64 t.most) := Blk.cell h.blk 7
 have f6 : w.frozen? ⟨q, 6, none⟩ = false := h.blk.frozen 6
 have hlt := h.blk.lt
 have H := Lib.hid h
 unfold ptr
 by_cases hz : t.times < 1
 ·have hmo : t.mo = (none, t) := if_pos hz
  rw [hmo]
  have hle : t.times ≤ 0 := by omega
  clear h hmo
  go_enter Tryz.func44, Tryz.ntmps44
  go_wp2
  go_ret2
  exact ⟨Keep.refl _ _, H.out, .inl ⟨trivial, rfl⟩⟩
 ·have hmo : t.mo = (some (GetC.init ⟨t.b, t.s, t.most⟩), { t with times := t.times - 1 }) := if_neg hz
  rw [hmo]
  have hle : ¬ t.times ≤ 0 := by omega
  have hbd := h.bd
  have W1 : IntKind.i64.wrap (t.times - 1) = t.times - 1 := IntWalk.i64_in _ ⟨by omega, by omega⟩
  have HBD := Lib.hid hbd
  have ks : Keep (fun i => i = q) w (w.setCell ⟨q, 6, none⟩ (.int .i64 (t.times - 1))) := (Keep.refl (fun i => i = q) w).setCell (p := ⟨q, 6, none⟩) (.inl rfl) _
  have hP := h.set (t' := { t with times := t.times - 1 }) (nv' := nv) (cur' := cur) (F2 := F1) ks (h.blk.set 6 (.int .i64 (t.times - 1))) h.c ⟨rfl, rfl, rfl, by show t.times - 1 ≤ t.times; omega⟩ (fun i hi => ⟨(h.lt i (.inr (.inr hi))).1, (h.lt i (.inr (.inr hi))).2.1, (h.lt i (.inr (.inr hi))).2.2, h.df i hi⟩)
  have HP := Lib.hid hP
  have KS := Lib.hid ks
  have zs := ks.size
  clear h hmo hbd ks hP
  go_enter Tryz.func44, Tryz.ntmps44
  go_wp2_with fail
  have d4 : (w.setCell ⟨q, 6, none⟩ (.int .i64 (t.times - 1))).cell? ⟨q, 4, none⟩ = some (.int .i64 t.b) := Blk.cell HP.out.blk 4
  have d5 : (w.setCell ⟨q, 6, none⟩ (.int .i64 (t.times - 1))).cell? ⟨q, 5, none⟩ = some (.int .i64 t.s) := Blk.cell HP.out.blk 5
  have d7 : (w.setCell ⟨q, 6, none⟩ (.int .i64 (t.times - 1))).cell? ⟨q, 7, none⟩ = some (.int .i64 t.most) := Blk.cell HP.out.blk 7
  go_region_held3 (fun w' => w'.cell? ⟨q, 4, none⟩ = some (.int .i64 t.b) ∧ w'.cell? ⟨q, 5, none⟩ = some (.int .i64 t.s) ∧ w'.cell? ⟨q, 7, none⟩ = some (.int .i64 t.most)) (first | go_keep | trivial)
   (first
    | (go_at_call 31; refine (gNew_f t.b t.s t.most _ H.out.bb.1 H.out.bb.2 H.out.bs.1 H.out.bs.2).mono ?_; rintro e w2 ⟨p, rfl, hp, hf, b2⟩; have hc0 := fun o => b2.cell (p := ⟨q, o, none⟩) (by simpa using hlt)))
  all_goals (
   have b3 := bel_drewP b2
   have HB3 := Lib.hid b3
   have HF : Hid (GetF w2 (fun k => w.heap.size ≤ k ∧ k < w2.heap.size) p (GetC.init ⟨t.b, t.s, t.most⟩)) := Lib.hid (by simpa using hf)
   clear hc0 b2 b3 hf hp
   go_wp2
   go_ret2
   exact ⟨KS.out.trans (Below.keeps HB3.out), HP.out.below HB3.out, .inr ⟨_, p, rfl, rfl, HF.out, by have := HBD.out; omega⟩⟩)
def DraE (w : World) (q bx : Nat) (O R F1 : Nat → Prop) (m : GetM) (t : DraT) (nv : Value) (w' : World) : Prop :=
 Keep (fun i => i = q ∨ R i) w w' ∧ ∃ O' R' ov', DraP w' q bx O' R' F1 (some m) { t with out := t.out ++ m.out } nv ov' ∧ ∀ i, O' i ∨ R' i → O i ∨ R i ∨ w.heap.size ≤ i
theorem DraP.push {w w2 w3 : World} {nv ov v3 : Value} (h : DraP w q bx O R F1 (some m) t nv ov) (hf : m.fine) (hok : (t.out.length : Int) + 1024 * max t.times 0 ≤ 65536) (b2 : Below w.heap.size w w2) (k3 : Keep R w2 w3)
  (ms : MsIn w3 (fun i => O i ∨ (w.heap.size ≤ i ∧ i < w2.heap.size)) (fun i => R i ∨ (w2.heap.size ≤ i ∧ i < w3.heap.size)) v3 (t.out ++ m.out)) : DraE w q bx O R F1 m t nv (w3.setCell ⟨q, 8, none⟩ v3) := by
 have z2 := b2.size
 have z3 := k3.size
 have h2 := h.below b2
 have lo := h.lt
 have hq := h.blk.lt
 have hbx := h.box.lt
 have ks : Keep (fun i => i = q) w3 (w3.setCell ⟨q, 8, none⟩ v3) := (Keep.refl (fun i => i = q) w3).setCell (p := ⟨q, 8, none⟩) (.inl rfl) _
 have zs := ks.size
 have nR : ¬ R q := fun hr => (lo q (.inr (.inl hr))).2.1 rfl
 have nRb : ¬ R bx := fun hr => (lo bx (.inr (.inl hr))).2.2 rfl
 refine ⟨((Below.keeps (M := fun i => i = q ∨ R i) b2).trans (k3.mono (fun i _ hi => .inr hi))).trans (ks.mono (fun i _ hi => .inl hi)), _, _, v3, ⟨(h2.blk.keep k3 nR).set 8 v3, (h2.box.keep k3 nRb).keep ks h.ne, ms.keep ks ?_ ?_, (h2.c.keep k3 (fun i hi => (h.df i hi).2)).keep ks (fun i hi => (lo i (.inr (.inr hi))).2.1), ?_, ?_, h.bb, h.bs, ?_, ?_, ?_, h.ne⟩, ?_⟩
 ·rintro i (hi | hi) e
  ·exact (lo i (.inl hi)).2.1 e
  ·have e : i = q := e
   omega
 ·rintro i (hi | hi) e
  ·exact (lo i (.inr (.inl hi))).2.1 e
  ·have e : i = q := e
   omega
 ·have := hf.lo
  have hbd := h.bd
  refine ⟨hbd.1, ?_⟩
  show ((t.out ++ m.out).length : Int) + 1024 * max t.times 0 ≤ 66560
  rw [List.length_append]
  omega
 ·intro x hx
  rcases List.mem_append.1 hx with hx | hx
  ·exact h.ds x hx
  ·exact hf.ds x hx
 ·rintro i ((hi | hi) | (hi | hi) | hi)
  ·have := lo i (.inl hi)
   exact ⟨by omega, this.2⟩
  ·exact ⟨by omega, by omega, by omega⟩
  ·have := lo i (.inr (.inl hi))
   exact ⟨by omega, this.2⟩
  ·exact ⟨by omega, by omega, by omega⟩
  ·have := lo i (.inr (.inr hi))
   exact ⟨by omega, this.2⟩
 ·rintro i (hi | hi) (hr | hr)
  ·exact h.dj i hi hr
  ·have := lo i (.inl hi)
   omega
  ·have := lo i (.inr (.inl hr))
   omega
  ·omega
 ·intro i hi
  have h1 := h.df i hi
  have h2 := lo i (.inr (.inr hi))
  exact ⟨fun h => h.elim h1.1 (fun h => by omega), fun h => h.elim h1.2 (fun h => by omega)⟩
 ·rintro i ((hi | hi) | (hi | hi))
  ·exact .inl hi
  ·exact .inr (.inr hi.1)
  ·exact .inr (.inl hi)
  ·exact .inr (.inr (by omega))
set_option maxHeartbeats 4000000 in
theorem draEnded_any {q bx p : Nat} {ov : Value} (h : DraP w q bx O R F1 (some m) t (ptr p) ov) (hp : GetF w F1 p m) (hok : (t.out.length : Int) + 1024 * max t.times 0 ≤ 65536) :
  Calls Tryz.prog 45 #[ptr p, ptr bx] w fun e w' => e = .returned (.tuple #[]) ∧ DraE w q bx O R F1 m t (ptr p) w' := by
 have p0 : w.cell? ⟨bx, 0, none⟩ = some (.pointer (some ⟨q, 0, none⟩)) := Blk.cell h.box 0
 have c8 : w.cell? ⟨q, 8, none⟩ = some ov := Blk.cell h.blk 8
 have f8 : w.frozen? ⟨q, 8, none⟩ = false := h.blk.frozen 8
 have hlt := h.blk.lt
 have hbx := h.box.lt
 obtain ⟨oa, oc, rfl⟩ := h.ms.sl
 have HF := Lib.hid hp.2.2.1
 have HO := Lib.hid hok
 have H := Lib.hid h
 have HP := Lib.hid hp
 obtain ⟨n, hn⟩ : ∃ n, n = t.out.length := ⟨_, rfl⟩
 rw [← hn] at c8
 have HN := Lib.hid hn
 clear h hp hok hn
 unfold ptr
 go_enter Tryz.func45, Tryz.ntmps45
 go_wp2_with fail
 refine wp_region_held_drew (S := (fun w' => w'.cell? ⟨bx, 0, none⟩ = some (.pointer (some ⟨q, 0, none⟩)))) (by kernel_rfl) ?_ (fun hHeld => ?_)
 ·try dsimp only
  go_keep
 refine wpT 0 rfl ?_
 try simp only [Act.put, tS]
 refine wpT 1 rfl ?_
 try simp only [Act.put, tS]
 refine wpT 2 rfl ?_
 try simp only [Act.put, tS]
 refine wpT 3 rfl ?_
 try simp only [Act.put, tS]
 refine wpT 5 rfl ?_
 try simp only [Act.put, tS]
 refine wpAnyH_ready (rs := [4, 6]) (by kernel_rfl) (by simp) ?_
 refine AllReadyH.cons rfl (fun K hK => ?_) (AllReadyH.cons rfl (fun K hK => ?_) AllReadyH.nil)
 ·go_simp
  refine hK.out _ _ ?_ (fun hHeld => ?_)
  ·try dsimp only
   go_keep
  clear hK K
  try simp only [Act.put, tS]
  refine wpR 6 rfl fun K hK => ?_
  go_simp
  refine (gMessages_f _ (HP.out.below (by go_grown))).mono ?_
  rintro e w2 ⟨v, rfl, hms, b2⟩
  obtain ⟨ga, gc, rfl⟩ := hms.sl
  obtain ⟨n2, hn2⟩ : ∃ n2, n2 = m.out.length := ⟨_, rfl⟩
  have B2 : Hid (Below w.heap.size w w2) := Lib.hid (bel_drewP b2)
  have HMS : Hid (MsIn w2 (fun i => w.heap.size ≤ i ∧ i < w2.heap.size) (fun i => w.heap.size ≤ i) (.slice ga m.out.length gc) m.out) := Lib.hid (by simpa using hms)
  rw [← hn2]
  have HN2 := Lib.hid hn2
  have z2 := b2.size
  simp at z2
  have lq2 : q < w2.heap.size := by omega
  have c82 := (B2.out.cell (p := ⟨q, 8, none⟩) hlt).trans c8
  have HB2 : Hid (w2.cell? ⟨bx, 0, none⟩ = some (.pointer (some ⟨q, 0, none⟩))) := Lib.hid ((B2.out.cell (p := ⟨bx, 0, none⟩) hbx).trans p0)
  clear hms b2 hn2
  go_wp2_with fail
  refine hK.out _ _ ?_ (fun hHeld => ?_)
  ·try dsimp only
   exact HB2.out
  clear hK K
  try simp only [Act.put, tS]
  refine wpR 7 rfl fun K hK => ?_
  rw [HN2.out, HN.out]
  refine step_appMs (by rfl) _ _ (by rfl) (O := O) (R := R) (O2 := fun i => w.heap.size ≤ i ∧ i < w2.heap.size) (R2 := fun i => w.heap.size ≤ i) (v := .slice oa t.out.length oc) (v2 := .slice ga m.out.length gc) (l := t.out) (l2 := m.out) (by rfl) (by rfl) (H.out.below B2.out).ms HMS.out (by have := HF.out.lo; have := HO.out; omega) (fun i hi hr => hi.elim (fun hi => H.out.dj i hi hr) (fun hi => by have := (H.out.lt i (.inr (.inl hr))).1; omega)) ?_
  intro v3 w3 ms3 k3
  obtain ⟨xa, xn, xc, rfl⟩ : ∃ a n c, v3 = .slice a n c := by obtain ⟨a, c, e⟩ := ms3.sl; exact ⟨_, _, _, e⟩
  have HE := Lib.hid (H.out.push HF.out HO.out B2.out k3 ms3)
  have c83 := (k3.cell (b := q) 8 lq2 (fun hr => (H.out.lt q (.inr (.inl hr))).2.1 rfl)).trans c82
  have f83 := (k3.frozen (b := q) 8 lq2 (fun hr => (H.out.lt q (.inr (.inl hr))).2.1 rfl)).trans ((H.out.below B2.out).blk.frozen 8)
  have HB3 : Hid (w3.cell? ⟨bx, 0, none⟩ = some (.pointer (some ⟨q, 0, none⟩))) := Lib.hid ((k3.cell (b := bx) 0 (by omega) (fun hr => (H.out.lt bx (.inr (.inl hr))).2.2 rfl)).trans HB2.out)
  have z3 := k3.size
  have HKS := Lib.hid (Keep.setCell (M := (· = q)) (Keep.refl _ w3) (p := ⟨q, 8, none⟩) (.inl rfl) (.slice xa xn xc))
  clear ms3 k3
  refine hK.out _ _ ?_ (fun hHeld => ?_)
  ·try dsimp only
   exact HB3.out
  clear hK K
  try simp only [Act.put, tS]
  refine wpT 8 rfl ?_
  try simp only [Act.put, tS]
  refine wpT 9 rfl ?_
  try simp only [Act.put, tS]
  refine wpR 10 rfl fun K hK => ?_
  go_simp
  refine hK.out _ _ ?_ (fun hHeld => ?_)
  ·try dsimp only
   exact (HKS.out.cell (b := bx) 0 (by omega) H.out.ne).trans HB3.out
  clear hK K
  try simp only [Act.put, tS]
  refine wpAnyH_done (by kernel_rfl) ?_ _
  clear hHeld
  go_wp2
  refine bodyPost_end (results_none rfl _ _ _) rfl ⟨rfl, HE.out⟩
 ·go_simp
  refine (gMessages_f _ (HP.out.below (by go_grown))).mono ?_
  rintro e w2 ⟨v, rfl, hms, b2⟩
  obtain ⟨ga, gc, rfl⟩ := hms.sl
  obtain ⟨n2, hn2⟩ : ∃ n2, n2 = m.out.length := ⟨_, rfl⟩
  have B2 : Hid (Below w.heap.size w w2) := Lib.hid (bel_drewP b2)
  have HMS : Hid (MsIn w2 (fun i => w.heap.size ≤ i ∧ i < w2.heap.size) (fun i => w.heap.size ≤ i) (.slice ga m.out.length gc) m.out) := Lib.hid (by simpa using hms)
  rw [← hn2]
  have HN2 := Lib.hid hn2
  have z2 := b2.size
  simp at z2
  have lq2 : q < w2.heap.size := by omega
  have c82 := (B2.out.cell (p := ⟨q, 8, none⟩) hlt).trans c8
  have HB2 : Hid (w2.cell? ⟨bx, 0, none⟩ = some (.pointer (some ⟨q, 0, none⟩))) := Lib.hid ((B2.out.cell (p := ⟨bx, 0, none⟩) hbx).trans p0)
  clear hms b2 hn2
  go_wp2_with fail
  refine hK.out _ _ ?_ (fun hHeld => ?_)
  ·try dsimp only
   exact HB2.out
  clear hK K
  try simp only [Act.put, tS]
  refine wpR 4 rfl fun K hK => ?_
  go_simp
  refine hK.out _ _ ?_ (fun hHeld => ?_)
  ·try dsimp only
   exact HB2.out
  clear hK K
  try simp only [Act.put, tS]
  refine wpR 7 rfl fun K hK => ?_
  rw [HN2.out, HN.out]
  refine step_appMs (by rfl) _ _ (by rfl) (O := O) (R := R) (O2 := fun i => w.heap.size ≤ i ∧ i < w2.heap.size) (R2 := fun i => w.heap.size ≤ i) (v := .slice oa t.out.length oc) (v2 := .slice ga m.out.length gc) (l := t.out) (l2 := m.out) (by rfl) (by rfl) (H.out.below B2.out).ms HMS.out (by have := HF.out.lo; have := HO.out; omega) (fun i hi hr => hi.elim (fun hi => H.out.dj i hi hr) (fun hi => by have := (H.out.lt i (.inr (.inl hr))).1; omega)) ?_
  intro v3 w3 ms3 k3
  obtain ⟨xa, xn, xc, rfl⟩ : ∃ a n c, v3 = .slice a n c := by obtain ⟨a, c, e⟩ := ms3.sl; exact ⟨_, _, _, e⟩
  have HE := Lib.hid (H.out.push HF.out HO.out B2.out k3 ms3)
  have c83 := (k3.cell (b := q) 8 lq2 (fun hr => (H.out.lt q (.inr (.inl hr))).2.1 rfl)).trans c82
  have f83 := (k3.frozen (b := q) 8 lq2 (fun hr => (H.out.lt q (.inr (.inl hr))).2.1 rfl)).trans ((H.out.below B2.out).blk.frozen 8)
  have HB3 : Hid (w3.cell? ⟨bx, 0, none⟩ = some (.pointer (some ⟨q, 0, none⟩))) := Lib.hid ((k3.cell (b := bx) 0 (by omega) (fun hr => (H.out.lt bx (.inr (.inl hr))).2.2 rfl)).trans HB2.out)
  have z3 := k3.size
  have HKS := Lib.hid (Keep.setCell (M := (· = q)) (Keep.refl _ w3) (p := ⟨q, 8, none⟩) (.inl rfl) (.slice xa xn xc))
  clear ms3 k3
  refine hK.out _ _ ?_ (fun hHeld => ?_)
  ·try dsimp only
   exact HB3.out
  clear hK K
  try simp only [Act.put, tS]
  refine wpT 8 rfl ?_
  try simp only [Act.put, tS]
  refine wpT 9 rfl ?_
  try simp only [Act.put, tS]
  refine wpR 10 rfl fun K hK => ?_
  go_simp
  refine hK.out _ _ ?_ (fun hHeld => ?_)
  ·try dsimp only
   exact (HKS.out.cell (b := bx) 0 (by omega) H.out.ne).trans HB3.out
  clear hK K
  try simp only [Act.put, tS]
  refine wpAnyH_done (by kernel_rfl) ?_ _
  clear hHeld
  go_wp2
  refine bodyPost_end (results_none rfl _ _ _) rfl ⟨rfl, HE.out⟩
def DraQ (bx : Nat) (w : World) (q : Nat) (F : Nat → Prop) (cur : Option GetM) (t : DraT) : Prop := ∃ O R F1 nv ov, DraP w q bx O R F1 cur t nv ov ∧ (∀ i, DraO q bx O R F1 i → F i) ∧ ∀ i, F i → i < w.heap.size
theorem DraP.cells (h : DraP w q bx O R F1 cur t nv ov) :
  w.cell? ⟨q, 0, none⟩ = some nv ∧ w.cell? ⟨q, 1, none⟩ = some (.func (.func 44) #[ptr q] #[]) ∧ w.cell? ⟨q, 2, none⟩ = some (.func (.func 45) #[] #[ptr bx]) ∧ w.cell? ⟨q, 3, none⟩ = some (.bool cur.isSome) :=
 ⟨Blk.cell h.blk 0, Blk.cell h.blk 1, Blk.cell h.blk 2, Blk.cell h.blk 3⟩
theorem DraP.put {O R F1 F2 : Nat → Prop} (h : DraP w q bx O R F1 cur t nv ov) (cur' : Option GetM) (nv' : Value) (hc : DraN w F2 nv' cur') (hd : ∀ i, F2 i → i < w.heap.size ∧ ¬ DraO q bx O R F1 i) :
  DraP ((w.setCell ⟨q, 0, none⟩ nv').setCell ⟨q, 3, none⟩ (.bool cur'.isSome)) q bx O R F2 cur' t nv' ov :=
 h.set (((Keep.refl (fun i => i = q) w).setCell (p := ⟨q, 0, none⟩) (.inl rfl) _).setCell (p := ⟨q, 3, none⟩) (.inl rfl) _) ((h.blk.set 0 nv').set 3 (.bool cur'.isSome)) hc ⟨rfl, rfl, rfl, Int.le_refl _⟩
  (fun i hi => ⟨(hd i hi).1, fun e => (hd i hi).2 (.inl e), fun e => (hd i hi).2 (.inr (.inl e)), fun e => (hd i hi).2 (.inr (.inr (.inl e))), fun e => (hd i hi).2 (.inr (.inr (.inr (.inl e))))⟩)
def draK (bx : Nat) : ChK where
 C := getFamS
 c := draC
 mor := 44
 enf := 45
 enm := enDraMore
 ene := enDraEnded
 xok := fun x => inU x.v ∧ x.b.length ≤ 1000
 xan := fun _ _ hx => get_xan hx
 xtk := fun {w F q s x s0 sl sc} h hl hx hr => gTake_f x s0 sl sc w h hl hx.1 hx.2 hr
 a1 := fun _ _ => #[]
 a2 := fun _ _ => #[ptr bx]
 P := DraQ bx
 dom := fun {w q F cur t} ⟨O, R, F1, nv, ov, h, hO, hF⟩ => ⟨hO q (.inl rfl), hF⟩
 mono := fun {w q cur t F F'} ⟨O, R, F1, nv, ov, h, hO, hF⟩ h1 h2 => ⟨O, R, F1, nv, ov, h, fun i hi => h1 i (hO i hi), h2⟩
 keep := fun {w w' q F cur t K} ⟨O, R, F1, nv, ov, h, hO, hF⟩ k hd => ⟨O, R, F1, nv, ov, h.keep k (fun i hi => hd i (hO i hi)), hO, fun i hi => Nat.lt_of_lt_of_le (hF i hi) k.size⟩
 cells := fun {w q F cur t} ⟨O, R, F1, nv, ov, h, hO, hF⟩ => by
  obtain ⟨c0, c1, c2, c3⟩ := h.cells
  exact ⟨nv, 0, c0, c1, c2, c3, h.blk.frozen 0, h.blk.frozen 3⟩
 mach := fun {w q F m t nv0} ⟨O, R, F1, nv, ov, h, hO, hF⟩ hc => by
  obtain ⟨c0, _⟩ := h.cells
  rw [c0] at hc
  obtain rfl : nv = nv0 := Option.some.inj hc
  obtain ⟨p, e, hp⟩ := h.c
  have lo := h.lt
  refine ⟨p, F1, e, hp, fun i hi => ⟨hO i (.inr (.inr (.inr (.inr hi)))), (lo i (.inr (.inr hi))).2.1⟩, ?_⟩
  intro w' m' F1' k hp' hg
  have hp2 : GetF w' F1' p m' := hp'
  have hq := h.blk.lt
  have hb := h.box.lt
  refine ⟨O, R, F1', nv, ov, ⟨h.blk.keep k (fun hi => (lo q (.inr (.inr hi))).2.1 rfl), h.box.keep k (fun hi => (lo bx (.inr (.inr hi))).2.2 rfl), h.ms.keep k (fun i hi hf => (h.df i hf).1 hi) (fun i hi hf => (h.df i hf).2 hi), ⟨p, e, hp2⟩, h.bd, h.ds, h.bb, h.bs, ?_, h.dj, ?_, h.ne⟩, ?_, ?_⟩
  ·rintro i (hi | hi | hi)
   ·exact ⟨Nat.lt_of_lt_of_le (lo i (.inl hi)).1 k.size, (lo i (.inl hi)).2⟩
   ·exact ⟨Nat.lt_of_lt_of_le (lo i (.inr (.inl hi))).1 k.size, (lo i (.inr (.inl hi))).2⟩
   ·refine ⟨hp2.2.1 i hi, ?_⟩
    rcases hg i hi with h4 | h4
    ·exact (lo i (.inr (.inr h4))).2
    ·exact ⟨by omega, by omega⟩
  ·intro i hi
   rcases hg i hi with h4 | h4
   ·exact h.df i h4
   ·exact ⟨fun hl => by have := lo i (.inl hl); omega, fun hl => by have := lo i (.inr (.inl hl)); omega⟩
  ·rintro i (hi | hi | hi | hi | hi)
   ·exact .inl (hO i (.inl hi))
   ·exact .inl (hO i (.inr (.inl hi)))
   ·exact .inl (hO i (.inr (.inr (.inl hi))))
   ·exact .inl (hO i (.inr (.inr (.inr (.inl hi)))))
   ·exact .inr hi
  ·rintro i (hi | hi)
   ·exact Nat.lt_of_lt_of_le (hF i hi) k.size
   ·exact hp2.2.1 i hi
 more := fun {w q F cur t} ⟨O, R, F1, nv, ov, h, hO, hF⟩ => by
  refine (draMore_any h).mono ?_
  rintro e w' ⟨k, hp, hx⟩
  refine ⟨k.mono (fun i _ e => e ▸ hO q (.inl rfl)), ⟨O, R, F1, nv, ov, hp, hO, fun i hi => Nat.lt_of_lt_of_le (hF i hi) k.size⟩, ?_⟩
  rcases hx with hx | ⟨m, p, h1, h2, h3, h4⟩
  ·exact .inl hx
  ·exact .inr ⟨m, p, (fun i => w.heap.size ≤ i ∧ i < w'.heap.size), h1, h2, h3, fun i hi => hi.1, h4⟩
 ended := fun {w q F m t p _} ⟨O, R, F1, nv, ov, h, hO, hF⟩ ok hc hc2 => by
  obtain ⟨c0, _, c2, _⟩ := h.cells
  rw [c0] at hc
  obtain rfl : nv = ptr p := Option.some.inj hc
  obtain ⟨p', e, hp⟩ := h.c
  obtain rfl : p = p' := by unfold ptr at e; injection e with e; injection e with e; injection e
  show Calls Tryz.prog 45 (#[] ++ #[ptr p] ++ #[ptr bx]) w _
  rw [show (#[] ++ #[ptr p] ++ #[ptr bx] : Array Value) = #[ptr p, ptr bx] from rfl]
  refine Calls.mono (draEnded_any h hp ok) ?_
  rintro e w' ⟨rfl, k, O', R', ov', hd, hg⟩
  obtain ⟨d0, _, d2, _⟩ := hd.cells
  refine ⟨rfl, d0, d2, DraO q bx O' R' F1, ⟨O', R', F1, ptr p, ov', hd, fun i hi => hi, hd.sz⟩, ?_, ?_⟩
  ·rintro i (hi | hi | hi | hi | hi)
   ·exact .inl (hO i (.inl hi))
   ·exact .inl (hO i (.inr (.inl hi)))
   ·rcases hg i (.inl hi) with h1 | h1 | h1
    ·exact .inl (hO i (.inr (.inr (.inl h1))))
    ·exact .inl (hO i (.inr (.inr (.inr (.inl h1)))))
    ·exact .inr h1
   ·rcases hg i (.inr hi) with h1 | h1 | h1
    ·exact .inl (hO i (.inr (.inr (.inl h1))))
    ·exact .inl (hO i (.inr (.inr (.inr (.inl h1)))))
    ·exact .inr h1
   ·exact .inl (hO i (.inr (.inr (.inr (.inr hi)))))
  ·refine k.mono ?_
   rintro i _ (hi | hi)
   ·exact hO i (.inl hi)
   ·exact hO i (.inr (.inr (.inr (.inl hi))))
 setN := fun {w q F cur t} ⟨O, R, F1, nv, ov, h, hO, hF⟩ => by
  have h' := h.put (F2 := fun _ => False) none (.pointer none) rfl (fun i hi => hi.elim)
  refine ⟨O, R, _, _, ov, h', ?_, fun i hi => by have := hF i hi; simpa using this⟩
  rintro i (hi | hi | hi | hi | hi)
  ·exact hO i (.inl hi)
  ·exact hO i (.inr (.inl hi))
  ·exact hO i (.inr (.inr (.inl hi)))
  ·exact hO i (.inr (.inr (.inr (.inl hi))))
  ·exact hi.elim
 setS := fun {w q F cur t m p F2} ⟨O, R, F1, nv, ov, h, hO, hF⟩ hp hd => by
  have hp2 : GetF w F2 p m := hp
  have h' := h.put (F2 := F2) (some m) (ptr p) ⟨p, rfl, hp2⟩ (fun i hi => ⟨hp2.2.1 i hi, fun ho => hd i hi (hO i ho)⟩)
  refine ⟨O, R, F2, _, ov, h', ?_, ?_⟩
  ·rintro i (hi | hi | hi | hi | hi)
   ·exact .inl (hO i (.inl hi))
   ·exact .inl (hO i (.inr (.inl hi)))
   ·exact .inl (hO i (.inr (.inr (.inl hi))))
   ·exact .inl (hO i (.inr (.inr (.inr (.inl hi)))))
   ·exact .inr hi
  ·rintro i (hi | hi)
   ·have := hF i hi; simpa using this
   ·have := hp2.2.1 i hi; simpa using this
theorem dra_settle (n : Nat) : ∀ t : DraT, t.times ≤ n → draC.fin (draC.settle n (draC.mo t)) := by
 induction n with
 | zero => exact fun t h => draC.fin_mo 0 (f := (none, t)) (if_pos (by omega)) (draC.fin_none 0 t)
 | succ n ih =>
  intro t h
  by_cases hz : t.times < 1
  ·exact draC.fin_mo _ (f := (none, t)) (if_pos hz) (draC.fin_none _ t)
  ·refine draC.fin_mo _ (f := (some (GetC.init ⟨t.b, t.s, t.most⟩), { t with times := t.times - 1 })) (if_neg hz) ?_
   by_cases hv : (GetC.init ⟨t.b, t.s, t.most⟩).live = true
   ·exact draC.fin_live _ _ _ hv
   ·refine draC.fin_dead _ _ _ (Bool.eq_false_iff.2 hv) (ih _ ?_)
    show t.times - 1 ≤ n
    omega
theorem dra_enough : draC.Enough where
 all := fun m t _ => by
  show draC.fin (draC.settle (DraT.times t).toNat.succ.succ (some m, t))
  by_cases hv : GetM.live m = true
  ·exact draC.fin_live _ m t hv
  ·refine draC.fin_dead _ m t (Bool.eq_false_iff.2 hv) (dra_settle _ _ ?_)
   show DraT.times t ≤ _
   omega
 mo := fun t => dra_settle _ _ (by show DraT.times t ≤ ((DraT.times t).toNat + 2 : Nat); omega)
end Go.Proofs.YtggjhleomocojaaGreat
end
