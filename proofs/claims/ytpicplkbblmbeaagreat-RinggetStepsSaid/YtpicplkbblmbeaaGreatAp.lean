/- Appending any reading of bytes to an owned row of bytes, as laws for the walk. Conditions: the sum of the lengths is below 2^47. -/
import Derived.Test.YtpicplkbblmbeaaGreatRw
import Derived.Laws.AppendOwnNone
import Derived.Deep.AppendLies
namespace Go.Proofs.YtpicplkbblmbeaaGreat
open Go.RowKit
theorem add_none (b off j : Nat) : (⟨b, off, none⟩ : Addr).add j = ⟨b, off + j, none⟩ := by unfold Addr.add; split <;> simp_all
theorem news_of {w : World} {b off : Nat} {m : List Int} (h : ∀ i, i < m.length → w.cell? ⟨b, off + i, none⟩ = some (.int .u8 (gB m i))) :
    ∀ j u, (m.map (Value.int .u8))[j]? = some u → w.cell? ((⟨b, off, none⟩ : Addr).add j) = some u := by
  intro j u hu
  rw [add_none]
  have hj : j < m.length := by
    have := (List.getElem?_eq_some_iff.1 hu).1
    simpa using this
  rw [h j hj]
  simp [hj] at hu
  simp [gB, hj, hu]
/-- What became of an owned row of bytes. -/
def AppB (B : Nat) (w : World) (v : Value) (l m : List Int) (v' : Value) (w' : World) : Prop :=
  OwB 5 B w' v' (l ++ m) ∧ w.grownBy w' v.ownBlock ∧ (v'.ownBlock = v.ownBlock ∨ v'.ownBlock = some w.heap.size)
theorem run_app {w : World} {ty : TypeId} {B : Nat} {v x : Value} {l m : List Int} (hown : OwB 5 B w v l) (hx : RdB w x m) (hlen : l.length + m.length ≤ 140737488355328) (hB : B ≤ w.heap.size) :
    ∃ v' w', (Builtin.append_ #[22, 22] ty #[v, x]).run Tryz.prog w = .ok v' w' ∧ AppB B w v l m v' w' := by
  obtain ⟨i0, hi, hz0, hz1, hz2⟩ := info_parts u8info
  rcases hx with ⟨rfl, rfl⟩ | ⟨a, cap, rfl, rfl, hm⟩ | ⟨b, off, cap, rfl, hc, hm, hcell⟩
  · refine ⟨v, w, run_append_owned_none (P := Tryz.prog) (w := w) B 22 ty 5 i0 1 Tryz.underlying22 hi v _ _ hown, ?_, World.grownBy.refl _ _, .inl rfl⟩
    simpa using hown
  · obtain ⟨v', w', hr, h2, h3, _, h5⟩ := run_append_own_at (P := Tryz.prog) w B 22 ty 5 i0 (.int .u8 0) 1 1 Tryz.underlying22 hi hz0 hz1 hz2 rfl (by decide) v _ _ hown a 0 cap [] rfl (by simp) (by simp) (by unfold maxLen; omega) (by omega) hB
    refine ⟨v', w', hr, ?_, h3, h5⟩
    unfold OwB
    simpa using h2
  · obtain ⟨v', w', hr, h2, h3, _, h5⟩ := run_append_own_at (P := Tryz.prog) w B 22 ty 5 i0 (.int .u8 0) 1 1 Tryz.underlying22 hi hz0 hz1 hz2 rfl (by decide) v _ _ hown ⟨b, off, none⟩ m.length cap (m.map (Value.int .u8)) (by simp) (news_of hcell) (ones_u8 m) (by unfold maxLen; omega) (by omega) hB
    refine ⟨v', w', hr, ?_, h3, h5⟩
    unfold OwB
    simpa using h2
theorem wp_app {w : World} {o : Oper} {a : Act} {K : Act → World → Prop} {Q : Exit → Act → World → Prop} (s x : Operand)
    (ho : o.op = .call { callee := .builtin .append, args := #[s, x], argTypes := #[22, 22] }) (B : Nat) (v y : Value) (l m : List Int) (hs : a.eval s = v) (hown : OwB 5 B w v l) (hx : a.eval x = y) (hy : RdB w y m)
    (hlen : l.length + m.length ≤ 140737488355328) (hB : B ≤ w.heap.size) (h : ∀ v' w', AppB B w v l m v' w' → K (a.put o.dst v') w') : o.wp Tryz.prog a w K Q := by
  obtain ⟨v', w', hr, h2⟩ := run_app (ty := o.type) hown hy hlen hB
  unfold Oper.wp execOp
  simp only [ho, resolve, invoke, builtin, Sem.run_bind, Sem.run_pure, Result.andThen_ok, List.map_toArray, List.map_cons, List.map_nil, hs, hx, hr]
  exact h v' w' h2
/-- At a plain region's list. -/
theorem list_app {w : World} {ops : Array Oper} {rest : List Oper} {o : Oper} {a : Act} {Q : Exit → Act → World → Prop} (hgd : o.guard = none) (s x : Operand)
    (ho : o.op = .call { callee := .builtin .append, args := #[s, x], argTypes := #[22, 22] }) (B : Nat) (v y : Value) (l m : List Int) (hs : a.eval s = v) (hown : OwB 5 B w v l) (hx : a.eval x = y) (hy : RdB w y m)
    (hlen : l.length + m.length ≤ 140737488355328) (hB : B ≤ w.heap.size) (h : ∀ v' w', AppB B w v l m v' w' → wpList Tryz.prog ops Q rest (a.put o.dst v') w') : wpList Tryz.prog ops Q (o :: rest) a w :=
  wpList_plain hgd fun _ hK => wp_app s x ho B v y l m hs hown hx hy hlen hB fun v' w' h2 => hK _ _ (h v' w' h2)
/-- At a step of a drawn region. -/
theorem step_app {w : World} {ops : Array Oper} {o : Oper} {a : Act} {K : Act → World → Prop} {Q : Exit → Act → World → Prop} {E : Prop} (hgd : o.guard = none) (s x : Operand)
    (ho : o.op = .call { callee := .builtin .append, args := #[s, x], argTypes := #[22, 22] }) (B : Nat) (v y : Value) (l m : List Int) (hs : a.eval s = v) (hown : OwB 5 B w v l) (hx : a.eval x = y) (hy : RdB w y m)
    (hlen : l.length + m.length ≤ 140737488355328) (hB : B ≤ w.heap.size) (h : ∀ v' w', AppB B w v l m v' w' → K (a.put o.dst v') w') :
    if Region.wanted o (yielded ops a.tmps) = true then Oper.wp Tryz.prog o a w K Q else E := by
  have hw : Region.wanted o (yielded ops a.tmps) = true := by simp [Region.wanted, hgd]
  rw [if_pos hw]
  exact wp_app s x ho B v y l m hs hown hx hy hlen hB h
theorem AppB.below {B B0 : Nat} {W w w' : World} {v v' : Value} {l m : List Int} (h : AppB B w v l m v' w') (hb : Below B0 W w) (hB : B0 ≤ w.heap.size) (hv : ∀ k, v.ownBlock = some k → B0 ≤ k) : Below B0 W w' :=
  hb.grown h.2.1 hB hv
theorem OwB.own_ge {B : Nat} {w : World} {v : Value} {l : List Int} (h : OwB 5 B w v l) : ∀ k, v.ownBlock = some k → B ≤ k := fun k hk => (World.ownsRow.lt h k hk).1
end Go.Proofs.YtpicplkbblmbeaaGreat
