/- Contract of sched.World.Pick, of a step or a kill. Conditions: as it says. -/
import Derived.Test.YtpicplkbblmbeaaGreatSg
import Derived.Maps.AppendAt
namespace Go.Proofs.YtpicplkbblmbeaaGreat
set_option maxRecDepth 100000
open Go.RowKit
set_option linter.unusedVariables false
set_option linter.unusedSimpArgs false
theorem evinfo : (Tryz.prog.info? 64).map (fun i => (i.zero, i.size, i.bytes)) = some (some (.agg #[.int .i64 0, .int .i64 0, .int .i64 0, .int .i64 0, .int .i64 0, .int .i64 0, .int .u64 0, .int .u64 0, .slice none 0 0, .int .u64 0, .bool false, .slice none 0 0]), 12, 128) := by kernel_rfl
/-- An append of one element that lies in a block of its own. -/
theorem wp_app1 {w : World} {o : Oper} {a : Act} {K : Act → World → Prop} {Q : Exit → Act → World → Prop} (s x : Operand) (T E : TypeId)
    (ho : o.op = .call { callee := .builtin .append, args := #[s, x], argTypes := #[T, T] }) {i : TypeInfo} {z : Value} {size bytes : Nat} (ht : Tryz.prog.underlying T = some (.slice E)) (hi : Tryz.prog.info? E = some i) (hz : i.zero = some z) (hsize : i.size = size) (hby : i.bytes = bytes) (hzs : z.cells.size = size) (hsz : 0 < size)
    (v : Value) (n : Nat) (xs : List Value) (hs : a.eval s = v) (hown : w.ownsRow 0 E size v n xs) (g : Nat) (news : List Value) (hx : a.eval x = .slice (some ⟨g, 0, none⟩) 1 1) (hb : Blk w g news) (hl : news.length = size) (h1 : ∀ u ∈ news, u.oneCell' = true) (hn : (n + 1) * bytes ≤ 140737488355328) (hm : n + 1 ≤ maxLen)
    (h : ∀ v' w', w'.ownsRow 0 E size v' (n + 1) (xs ++ news) → w.grownBy w' v.ownBlock → (v'.ownBlock = v.ownBlock ∨ v'.ownBlock = some w.heap.size) → K (a.put o.dst v') w') : o.wp Tryz.prog a w K Q := by
  have hnews : ∀ j u, news[j]? = some u → w.cell? ((⟨g, 0, none⟩ : Addr).add j) = some u := by
    intro j u hu
    have e : (⟨g, 0, none⟩ : Addr).add j = ⟨g, 0 + j, none⟩ := by unfold Addr.add; split <;> simp_all
    rw [e, Nat.zero_add, hb.cell]
    exact hu
  obtain ⟨v', w', hr, h2, h3, _, h5⟩ := run_append_own_at (P := Tryz.prog) w 0 T o.type E i z size bytes ht hi hz hsize hby hzs hsz v n xs hown ⟨g, 0, none⟩ 1 1 news (by rw [hl, Nat.one_mul]) hnews h1 hm hn (Nat.zero_le _)
  unfold Oper.wp execOp
  simp only [ho, resolve, invoke, builtin, Sem.run_bind, Sem.run_pure, Result.andThen_ok, List.map_toArray, List.map_cons, List.map_nil, hs, hx, hr]
  exact h v' w' h2 h3 h5
theorem grown_keep {w w' : World} {v : Value} (h : w.grownBy w' v.ownBlock) : Keep (fun i => v.ownBlock = some i) w w' :=
  ⟨h.os, h.tape, h.output, h.size, fun k hk hm => h.block k hk (fun e => hm e.symm)⟩
/-- The blocks of an event's slices are the trace's from now on, and so is the row's. -/
noncomputable def kdT (κ : Nat → Kd) (tv sv sx : Value) : Nat → Kd := fun k => open Classical in if tv.ownBlock = some k then .tr else if sv.ownBlock = some k ∨ sx.ownBlock = some k then .tb else κ k
theorem WoIn.traced {C : Fam} {w : World} {κ : Nat → Kd} {W p c : Nat} {av tv : Value} {ab : Nat → Nat} {S : SW C.M.σ} (h : WoIn C w κ W p c av tv ab S) (es : List (Ev × Value × Value)) (he : es.map (·.1) = S.tr) (hb : ∀ i, tv.ownBlock = some i → κ i = .tr) (hes : EvsIn w κ .tb es)
    (ev : Ev) (sv sx : Value) (r1 : RdB w sv ev.c.b) (r2 : RdB w sx ev.x.b) (kn : ∀ i, sv.ownBlock = some i ∨ sx.ownBlock = some i → κ i = .no ∧ i < w.heap.size) {w1 : World} {tv' : Value} (k : Keep (fun i => tv.ownBlock = some i) w w1) (hown : w1.ownsRow 0 64 12 tv' (es.length + 1) (es.flatMap evL ++ evL (ev, sv, sx))) (hv : tv'.ownBlock = tv.ownBlock ∨ ∃ i, tv'.ownBlock = some i ∧ w.heap.size ≤ i) :
    WoIn C (w1.setCell ⟨W, 3, none⟩ tv') (kdT κ tv' sv sx) W p c av tv' ab { S with tr := S.tr ++ [ev] } := by
  have hnew : ∀ i, tv'.ownBlock = some i → κ i = .tr ∨ w.heap.size ≤ i := by
    intro i hi
    rcases hv with e | ⟨j, e, hj⟩
    · exact .inl (hb i (e ▸ hi))
    · rw [e] at hi
      cases hi
      exact .inr hj
  have hK : Keep (fun i => tv.ownBlock = some i ∨ i = W) w (w1.setCell ⟨W, 3, none⟩ tv') := Keep.setCell (k.mono fun _ _ => .inl) (p := ⟨W, 3, none⟩) (.inl (.inr rfl)) _
  have same : ∀ i, κ i ≠ .no → κ i ≠ .tr → κ i ≠ .tb → kdT κ tv' sv sx i = κ i := by
    intro i h1 h2 h3
    unfold kdT
    rw [if_neg, if_neg]
    · exact fun hi => h1 (kn i hi).1
    · intro hi
      rcases hnew i hi with e | e
      · exact h2 e
      · exact absurd (h.all i h1) (by omega)
  have ntr : ∀ i, κ i ≠ .tr → ¬ tv.ownBlock = some i := fun i hi e => hi (hb i e)
  have nK : ∀ i, κ i ≠ .tr → κ i ≠ .wo → ¬ (tv.ownBlock = some i ∨ i = W) := by
    rintro i h1 h2 (e | e)
    · exact h1 (hb i e)
    · exact h2 (e ▸ h.kW)
  have hWne : tv'.ownBlock ≠ some W := by
    intro e
    rcases hnew W e with e | e
    · rw [h.kW] at e
      cases e
    · have := h.hd.lt
      omega
  refine ⟨?_, by rw [same _ (by rw [h.kW]; nofun) (by rw [h.kW]; nofun) (by rw [h.kW]; nofun)]; exact h.kW, h.buf.keep hK (nK _ (by rw [h.kp]; nofun) (by rw [h.kp]; nofun)) (nK _ (by rw [h.kc]; nofun) (by rw [h.kc]; nofun)), by rw [same _ (by rw [h.kp]; nofun) (by rw [h.kp]; nofun) (by rw [h.kp]; nofun)]; exact h.kp, by rw [same _ (by rw [h.kc]; nofun) (by rw [h.kc]; nofun) (by rw [h.kc]; nofun)]; exact h.kc, ?_, ?_, ?_, ?_⟩
  · exact (h.hd.keep k (ntr _ (by rw [h.kW]; nofun))).set 3 tv'
  · refine h.row.imp id ?_
    rintro ⟨g, cap, e1, e2, e3, e4, e5⟩
    exact ⟨g, cap, e1, e2, e3, by rw [same _ (by rw [e4]; nofun) (by rw [e4]; nofun) (by rw [e4]; nofun)]; exact e4, fun j hj => (hK.cell _ (h.all g (by rw [e4]; nofun)) (nK _ (by rw [e4]; nofun) (by rw [e4]; nofun))).trans (e5 j hj)⟩
  · intro i a hi
    obtain ⟨e, mv, hA, hm⟩ := h.act i a hi
    refine ⟨by rw [same _ (by rw [e]; nofun) (by rw [e]; nofun) (by rw [e]; nofun)]; exact e, mv, hA.keep hK (nK _ (by rw [e]; nofun) (by rw [e]; nofun)), ?_⟩
    have hm' := hm.keep hK (fun l hl => nK l (by rw [hl]; nofun) (by rw [hl]; nofun))
    cases ham : a.m with
    | none =>
      rw [ham] at hm'
      exact hm'
    | some s2 =>
      rw [ham] at hm'
      obtain ⟨q2, e2, hi2⟩ := hm'
      refine ⟨q2, e2, C.mono hi2 (fun l hl => by rw [same l (by rw [hl]; nofun) (by rw [hl]; nofun) (by rw [hl]; nofun)]; exact hl) ?_⟩
      intro l hl
      by_cases hl' : κ l = .ma i
      · exact Nat.lt_of_lt_of_le (h.all l (by rw [hl']; nofun)) hK.size
      · unfold kdT at hl
        split at hl
        · cases hl
        split at hl
        · cases hl
        · exact absurd hl hl'
  · refine ⟨es ++ [(ev, sv, sx)], by simp [he], ?_, ?_, ?_⟩
    · have e := ownsRow_keep hown (Keep.setCell (M := (· = W)) (Keep.refl _ w1) (p := ⟨W, 3, none⟩) (.inl rfl) tv') (fun i hi e => hWne (e ▸ hi))
      simpa using e
    · intro i hi
      unfold kdT
      rw [if_pos hi]
    · have old : ∀ i, κ i = .tb → kdT κ tv' sv sx i = .tb := by
        intro i hi
        unfold kdT
        rw [if_neg]
        · split
          · rfl
          · exact hi
        · intro e
          rcases hnew i e with e | e
          · rw [hi] at e
            cases e
          · exact absurd (h.all i (by rw [hi]; nofun)) (by omega)
      have nu : ∀ i, sv.ownBlock = some i ∨ sx.ownBlock = some i → kdT κ tv' sv sx i = .tb := by
        intro i hi
        unfold kdT
        rw [if_neg, if_pos hi]
        intro e
        have hn := kn i hi
        rcases hnew i e with e | e
        · rw [hn.1] at e
          cases e
        · omega
      have nuK : ∀ i, sv.ownBlock = some i ∨ sx.ownBlock = some i → ¬ (tv.ownBlock = some i ∨ i = W) := by
        intro i hi
        have hn := (kn i hi).1
        exact nK i (by rw [hn]; nofun) (by rw [hn]; nofun)
      have hes' := hes.keep (κ' := kdT κ tv' sv sx) hK (fun i hi => nK i (by rw [hi]; nofun) (by rw [hi]; nofun)) old
      refine ⟨?_, ?_, ?_, ?_⟩
      · intro e hm
        rcases List.mem_append.1 hm with hm | hm
        · exact hes'.r1 e hm
        · obtain rfl := List.mem_singleton.1 hm
          exact r1.keep hK fun _ i hi => nuK i (.inl hi)
      · intro e hm
        rcases List.mem_append.1 hm with hm | hm
        · exact hes'.r2 e hm
        · obtain rfl := List.mem_singleton.1 hm
          exact r2.keep hK fun _ i hi => nuK i (.inr hi)
      · intro e hm
        rcases List.mem_append.1 hm with hm | hm
        · exact hes'.k1 e hm
        · obtain rfl := List.mem_singleton.1 hm
          exact fun i hi => nu i (.inl hi)
      · intro e hm
        rcases List.mem_append.1 hm with hm | hm
        · exact hes'.k2 e hm
        · obtain rfl := List.mem_singleton.1 hm
          exact fun i hi => nu i (.inr hi)
  · intro i hi
    have hsz := hK.size
    unfold kdT at hi
    split at hi
    · rename_i e
      have hl := (World.ownsRow.lt hown i e).2
      simpa [World.setCell] using hl
    split at hi
    · rename_i e
      have := (kn i e).2
      omega
    · have := h.all i hi
      omega
theorem res_ev2 {fn : Func} {tmps : Array Value} {W : World} {p q r : Nat} {pk pa pn : Int} {c : AA} {s0 t0 : Option Addr} {sl sc tl tc : Nat} {x : AN} {E : Value} (hf : fn.results = #[.cell p 64, .tmp r]) (hp : tmps.getD p undef = .pointer (some ⟨q, 0, none⟩)) (he : tmps.getD r undef = E)
    (h : Blk W q (evC pk pa pn c (.slice s0 sl sc) x (.slice t0 tl tc))) : (results fn tmps).run Tryz.prog W = .ok (.tuple #[evV pk pa pn c (.slice s0 sl sc) x (.slice t0 tl tc), E]) W := by
  unfold evC at h
  obtain ⟨c0, c1, c2, c3, c4, c5, c6, c7, c8, c9, c10, c11⟩ := h.c12
  clear h
  rw [results_cell_tmp hf, hp, he]
  go_simp
  rfl
end Go.Proofs.YtpicplkbblmbeaaGreat
