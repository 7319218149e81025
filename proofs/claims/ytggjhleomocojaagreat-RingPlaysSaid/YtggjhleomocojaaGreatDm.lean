/- Messages in memory: they may be read; appended to one another. Conditions: as each says. -/
import Derived.Test.YtggjhleomocojaaGreatDd
import Derived.Test.YtggjhleomocojaaGreatGp
namespace Go.Proofs.YtggjhleomocojaaGreat
set_option maxRecDepth 100000
open Go.RowKit
set_option linter.unusedVariables false
set_option linter.unusedSimpArgs false
variable {w : World}
theorem MsIn.ms_cell2 {O R : Nat → Prop} {v : Value} {l : List (Int × List Int)} (h : MsIn w O R v l) {k : Nat} {t : Int} {d : List Int} (hk : l[k]? = some (t, d)) : ∃ g c s0 sl sc, v = .slice (some ⟨g, 0, none⟩) l.length c ∧ w.cell? ⟨g, k * 2, none⟩ = some (.int .i32 t) ∧ w.cell? ⟨g, k * 2 + 1, none⟩ = some (.slice s0 sl sc) ∧ RdB w (.slice s0 sl sc) d := by
 obtain ⟨⟨es, he, ho, hes⟩, _⟩ := h
 have hkl : k < l.length := (List.getElem?_eq_some_iff.1 hk).1
 have hel : es.length = l.length := by rw [← he, List.length_map]
 obtain ⟨e, hek⟩ : ∃ e, es[k]? = some e := ⟨_, List.getElem?_eq_getElem (by omega)⟩
 have h1 : e.1 = (t, d) := by
  rw [← he, List.getElem?_map, hek] at hk
  exact Option.some.inj hk
 obtain ⟨h2, _⟩ := hes e (List.mem_of_getElem? hek)
 obtain ⟨m1, m2⟩ := ms_at es k e hek
 obtain ⟨e1, e2⟩ := e
 dsimp only at h1 h2 m1 m2
 subst h1
 obtain ⟨sa, sl, sc, rfl⟩ := h2.isSl
 rcases ho.2 with ⟨_, h0⟩ | ⟨g, cap, cur, rfl, _⟩
 ·omega
 ·refine ⟨g, cap, sa, sl, sc, by rw [hel], ?_, ?_, h2⟩
  ·rw [World.ownsRow.cellAt ho _ (by omega), m1]
  ·rw [World.ownsRow.cellAt ho _ (by omega), m2]
theorem MsIn.none2 (w : World) (O R : Nat → Prop) : MsIn w O R (.slice none 0 0) [] := ⟨⟨[], rfl, World.ownsRow_nil _ _ _ _, fun e he => (List.not_mem_nil he).elim⟩, fun i hi => by cases hi⟩
variable {ops : Array Oper} {o : Oper} {a : Act} {Q : Exit → Act → World → Prop}
theorem list_appMs2 {rest : List Oper} (hgd : o.guard = none) (s x : Operand)
  (ho : o.op = .call { callee := .builtin .append, args := #[s, x], argTypes := #[22, 22] }) {O R O2 R2 : Nat → Prop} {v v2 : Value} {l l2 : List (Int × List Int)} (hs : a.eval s = v) (hx : a.eval x = v2) (h1 : MsIn w O R v l) (h2 : MsIn w O2 R2 v2 l2) (hn : l.length + l2.length ≤ 100000) (hd : ∀ i, O i ∨ O2 i → ¬ R i)
  (h : ∀ v' w', MsIn w' (fun i => O i ∨ O2 i) (fun i => R i ∨ (w.heap.size ≤ i ∧ i < w'.heap.size)) v' (l ++ l2) → Keep R w w' → wpList Tryz.prog ops Q rest (a.put o.dst v') w') : wpList Tryz.prog ops Q (o :: rest) a w := by
 obtain ⟨i0, hi, hz0, hz1, hz2⟩ := info_parts msinfo
 obtain ⟨⟨es, he, ho1, hes⟩, hr⟩ := h1
 obtain ⟨⟨es2, he2, ho2, hes2⟩, hr2⟩ := h2
 have hel : es.length = l.length := by rw [← he, List.length_map]
 have hel2 : es2.length = l2.length := by rw [← he2, List.length_map]
 rcases ho2.2 with ⟨rfl, h0⟩ | ⟨g, cap, cur, rfl, _⟩
 ·have e0 : es2 = [] := List.eq_nil_of_length_eq_zero h0
  have el : l2 = [] := by rw [← he2, e0]; rfl
  refine wpList_plain hgd fun _ hK => ?_
  have hr' := run_append_owned_none (P := Tryz.prog) w 0 22 o.type 34 i0 2 Tryz.underlying22 hi v es.length _ ho1
  unfold Oper.wp execOp
  simp only [ho, resolve, invoke, builtin, Sem.run_bind, Sem.run_pure, Result.andThen_ok, List.map_toArray, List.map_cons, List.map_nil, hs, hx, hr']
  refine hK _ _ (h _ _ ⟨⟨es, by rw [el, List.append_nil]; exact he, ho1, fun e hm => ⟨(hes e hm).1, fun i hi => .inl ((hes e hm).2 i hi)⟩⟩, fun i hi => .inl (hr i hi)⟩ (Keep.refl _ _))
 ·have hnews : ∀ j u, (es2.flatMap msL)[j]? = some u → w.cell? ⟨g, j, none⟩ = some u := by
   intro j u hu
   have hj : j < es2.length * 2 := by have := (List.getElem?_eq_some_iff.1 hu).1; rwa [msL_flat] at this
   rw [World.ownsRow.cellAt ho2 j hj]
   exact hu
  refine list_appN hgd s x 22 34 ho Tryz.underlying22 hi hz0 hz1 hz2 rfl (by decide) v es.length _ hs ho1 g es2.length cap (es2.flatMap msL) hx hnews (msL_flat es2) (ones_ms es2 w fun e he => (hes2 e he).1) (by omega) (by unfold maxLen; omega) ?_
  intro v' w' o3 g3 e3
  have K3 : Keep R w w' := (grown_keep g3).mono (fun i _ hi => hr i hi)
  refine h v' w' ⟨⟨es ++ es2, by rw [List.map_append, he, he2], by rw [List.length_append, List.flatMap_append]; exact o3, fun e hm => ?_⟩, fun i hi => ?_⟩ K3
  ·rcases List.mem_append.1 hm with hm | hm
   ·exact ⟨(hes e hm).1.keepP K3 (fun i hi => hd i (.inl ((hes e hm).2 i hi))), fun i hi => .inl ((hes e hm).2 i hi)⟩
   ·exact ⟨(hes2 e hm).1.keepP K3 (fun i hi => hd i (.inr ((hes2 e hm).2 i hi))), fun i hi => .inr ((hes2 e hm).2 i hi)⟩
  ·rcases e3 with e | e
   ·rw [e] at hi
    exact .inl (hr i hi)
   ·have hlt := (World.ownsRow.lt o3 i hi).2
    rw [e] at hi
    cases hi
    exact .inr ⟨Nat.le_refl _, hlt⟩
theorem MsIn.rdms {O R : Nat → Prop} {v : Value} {l : List (Int × List Int)} (h : MsIn w O R v l) (hR : ∀ i, R i → i < w.heap.size) : RdMs w (fun i => O i ∨ R i) v l := by
 obtain ⟨a, c, e⟩ := h.sl
 have h0 := h
 obtain ⟨⟨es, he, ho, hes⟩, hr⟩ := h
 have hel : es.length = l.length := by rw [← he, List.length_map]
 rcases ho.2 with ⟨e1, e0⟩ | ⟨g, cap, cur, e1, e2, e3, e4, e5, e6, e7⟩
 ·exact .inl ⟨none, 0, e1, List.eq_nil_of_length_eq_zero (by omega), Nat.zero_le _⟩
 ·have hg : R g := hr g (by rw [e1]; rfl)
  refine .inr ⟨g, 0, cap, by rw [e1, hel], by omega, e5, .inr hg, hR g hg, fun i x hx => ?_⟩
  have hil : i < l.length := (List.getElem?_eq_some_iff.1 hx).1
  obtain ⟨en, hek⟩ : ∃ en, es[i]? = some en := ⟨_, List.getElem?_eq_getElem (by omega)⟩
  have h1 : en.1 = x := by
   rw [← he, List.getElem?_map, hek] at hx
   exact Option.some.inj hx
  obtain ⟨h2, h3⟩ := hes en (List.mem_of_getElem? hek)
  obtain ⟨m1, m2⟩ := ms_at es i en hek
  obtain ⟨en1, en2⟩ := en
  dsimp only at h1 h2 h3 m1 m2
  subst h1
  obtain ⟨sa, sl, sc, rfl⟩ := h2.isSl
  subst e1
  refine ⟨sa, sl, sc, ?_, ?_, h2, fun _ j hj => .inl (h3 j hj)⟩
  ·rw [Nat.zero_add, World.ownsRow.cellAt ho _ (by omega), m1]
  ·rw [Nat.zero_add, World.ownsRow.cellAt ho _ (by omega), m2]
theorem step_appMs1 {K : Act → World → Prop} {E0 : Prop} (hgd : o.guard = none) (s x : Operand)
  (ho : o.op = .call { callee := .builtin .append, args := #[s, x], argTypes := #[22, 22] }) {O R O2 : Nat → Prop} {v dv : Value} {l : List (Int × List Int)} {t : Int} {d : List Int} (hs : a.eval s = v) (g : Nat) (hx : a.eval x = .slice (some ⟨g, 0, none⟩) 1 1) (hb : Blk w g [.int .i32 t, dv]) (h1 : MsIn w O R v l) (h2 : RdB w dv d) (h3 : ∀ i, dv.ownBlock = some i → O2 i) (hn : l.length + 1 ≤ 100000) (hd : ∀ i, O i ∨ O2 i → ¬ R i)
  (h : ∀ v' w', MsIn w' (fun i => O i ∨ O2 i) (fun i => R i ∨ (w.heap.size ≤ i ∧ i < w'.heap.size)) v' (l ++ [(t, d)]) → Keep R w w' → K (a.put o.dst v') w') :
  if Region.wanted o (yielded ops a.tmps) = true then Oper.wp Tryz.prog o a w K Q else E0 := by
 obtain ⟨i0, hi, hz0, hz1, hz2⟩ := info_parts msinfo
 obtain ⟨⟨es, he, ho1, hes⟩, hr⟩ := h1
 have hel : es.length = l.length := by rw [← he, List.length_map]
 obtain ⟨sa, sl, sc, rfl⟩ := h2.isSl
 refine step_app1 hgd s x 22 34 ho Tryz.underlying22 hi hz0 hz1 hz2 rfl (by decide) v es.length (es.flatMap msL) hs ho1 g [.int .i32 t, .slice sa sl sc] hx hb rfl (by intro u hu; simp at hu; rcases hu with rfl | rfl <;> rfl) (by omega) (by unfold maxLen; omega) ?_
 intro v' w' o3 g3 e3
 have K3 : Keep R w w' := (grown_keep g3).mono (fun i _ hi => hr i hi)
 refine h v' w' ⟨⟨es ++ [((t, d), .slice sa sl sc)], by rw [List.map_append, he]; rfl, by rw [List.length_append, List.flatMap_append]; exact o3, fun e hm => ?_⟩, fun i hi => ?_⟩ K3
 ·rcases List.mem_append.1 hm with hm | hm
  ·exact ⟨(hes e hm).1.keepP K3 (fun i hi => hd i (.inl ((hes e hm).2 i hi))), fun i hi => .inl ((hes e hm).2 i hi)⟩
  ·obtain rfl : e = ((t, d), .slice sa sl sc) := by simpa using hm
   exact ⟨h2.keepP K3 (fun i hi => hd i (.inr (h3 i hi))), fun i hi => .inr (h3 i hi)⟩
 ·rcases e3 with e | e
  ·rw [e] at hi
   exact .inl (hr i hi)
  ·have hlt := (World.ownsRow.lt o3 i hi).2
   rw [e] at hi
   cases hi
   exact .inr ⟨Nat.le_refl _, hlt⟩
theorem step_appMs {K : Act → World → Prop} {E0 : Prop} (hgd : o.guard = none) (s x : Operand)
  (ho : o.op = .call { callee := .builtin .append, args := #[s, x], argTypes := #[22, 22] }) {O R O2 R2 : Nat → Prop} {v v2 : Value} {l l2 : List (Int × List Int)} (hs : a.eval s = v) (hx : a.eval x = v2) (h1 : MsIn w O R v l) (h2 : MsIn w O2 R2 v2 l2) (hn : l.length + l2.length ≤ 100000) (hd : ∀ i, O i ∨ O2 i → ¬ R i)
  (h : ∀ v' w', MsIn w' (fun i => O i ∨ O2 i) (fun i => R i ∨ (w.heap.size ≤ i ∧ i < w'.heap.size)) v' (l ++ l2) → Keep R w w' → K (a.put o.dst v') w') :
  if Region.wanted o (yielded ops a.tmps) = true then Oper.wp Tryz.prog o a w K Q else E0 := by
 have hw : Region.wanted o (yielded ops a.tmps) = true := by simp [Region.wanted, hgd]
 rw [if_pos hw]
 obtain ⟨i0, hi, hz0, hz1, hz2⟩ := info_parts msinfo
 obtain ⟨⟨es, he, ho1, hes⟩, hr⟩ := h1
 obtain ⟨⟨es2, he2, ho2, hes2⟩, hr2⟩ := h2
 have hel : es.length = l.length := by rw [← he, List.length_map]
 have hel2 : es2.length = l2.length := by rw [← he2, List.length_map]
 rcases ho2.2 with ⟨rfl, h0⟩ | ⟨g, cap, cur, rfl, _⟩
 ·have e0 : es2 = [] := List.eq_nil_of_length_eq_zero h0
  have el : l2 = [] := by rw [← he2, e0]; rfl
  have hr' := run_append_owned_none (P := Tryz.prog) w 0 22 o.type 34 i0 2 Tryz.underlying22 hi v es.length _ ho1
  unfold Oper.wp execOp
  simp only [ho, resolve, invoke, builtin, Sem.run_bind, Sem.run_pure, Result.andThen_ok, List.map_toArray, List.map_cons, List.map_nil, hs, hx, hr']
  exact h _ _ ⟨⟨es, by rw [el, List.append_nil]; exact he, ho1, fun e hm => ⟨(hes e hm).1, fun i hi => .inl ((hes e hm).2 i hi)⟩⟩, fun i hi => .inl (hr i hi)⟩ (Keep.refl _ _)
 ·have hnews : ∀ j u, (es2.flatMap msL)[j]? = some u → w.cell? ((⟨g, 0, none⟩ : Addr).add j) = some u := by
   intro j u hu
   have e : (⟨g, 0, none⟩ : Addr).add j = ⟨g, 0 + j, none⟩ := by unfold Addr.add; split <;> simp_all
   have hj : j < es2.length * 2 := by have := (List.getElem?_eq_some_iff.1 hu).1; rwa [msL_flat] at this
   rw [e, Nat.zero_add, World.ownsRow.cellAt ho2 j hj]
   exact hu
  obtain ⟨v', w', hrn, o3, g3, _, e3⟩ := run_append_own_at (P := Tryz.prog) w 0 22 o.type 34 i0 _ 2 32 Tryz.underlying22 hi hz0 hz1 hz2 rfl (by decide) v es.length _ ho1 ⟨g, 0, none⟩ es2.length cap (es2.flatMap msL) (msL_flat es2) hnews (ones_ms es2 w fun e he => (hes2 e he).1) (by unfold maxLen; omega) (by omega) (Nat.zero_le _)
  unfold Oper.wp execOp
  simp only [ho, resolve, invoke, builtin, Sem.run_bind, Sem.run_pure, Result.andThen_ok, List.map_toArray, List.map_cons, List.map_nil, hs, hx, hrn]
  have K3 : Keep R w w' := (grown_keep g3).mono (fun i _ hi => hr i hi)
  refine h v' w' ⟨⟨es ++ es2, by rw [List.map_append, he, he2], by rw [List.length_append, List.flatMap_append]; exact o3, fun e hm => ?_⟩, fun i hi => ?_⟩ K3
  ·rcases List.mem_append.1 hm with hm | hm
   ·exact ⟨(hes e hm).1.keepP K3 (fun i hi => hd i (.inl ((hes e hm).2 i hi))), fun i hi => .inl ((hes e hm).2 i hi)⟩
   ·exact ⟨(hes2 e hm).1.keepP K3 (fun i hi => hd i (.inr ((hes2 e hm).2 i hi))), fun i hi => .inr ((hes2 e hm).2 i hi)⟩
  ·rcases e3 with e | e
   ·rw [e] at hi
    exact .inl (hr i hi)
   ·have hlt := (World.ownsRow.lt o3 i hi).2
    rw [e] at hi
    cases hi
    exact .inr ⟨Nat.le_refl _, hlt⟩
theorem gMessages_f {F : Nat → Prop} {q : Nat} {m : GetM} (w : World) (h : GetF w F q m) :
  Calls Tryz.prog 33 #[.pointer (some ⟨q, 0, none⟩)] w fun e w' => ∃ v, e = .returned v ∧ MsIn w' (fun i => w.heap.size ≤ i ∧ i < w'.heap.size) (fun i => w.heap.size ≤ i) v m.out ∧ Below w.heap.size w w' := by
 obtain ⟨_, _, hf, O, R, ov, hO, hI⟩ := h
 exact gMessages_at w hI (by have := hf.lo; omega) (fun x hx => by have := hf.ds x hx; omega)
end Go.Proofs.YtggjhleomocojaaGreat
