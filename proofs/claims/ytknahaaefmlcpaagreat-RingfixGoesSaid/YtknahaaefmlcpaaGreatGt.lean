/- Puts that are made for a row of messages; an access of a machine beside a world. Conditions: as each says. Messages that were got, in the order of what was put. Conditions: as each says. A world of puts, a get beside it, and the messages that were got. Conditions: as each says. -/
import Derived.Test.YtknahaaefmlcpaaGreatWo
import Derived.Test.YtknahaaefmlcpaaGreatGq
import Derived.Test.YtknahaaefmlcpaaGreatOy
import Derived.Test.YtknahaaefmlcpaaGreatVn
section
namespace Go.Proofs.YtknahaaefmlcpaaGreat
set_option maxRecDepth 100000
open Go.RowKit
set_option linter.unusedVariables false
set_option linter.unusedSimpArgs false
/-- An access done on a buffer. -/
theorem mDo_aa (p c : Nat) (cnt : Int) (bs : List Int) (A : AA) (s0 : Option Addr) (sl sc : Nat) (w : World) (h : Buf w p c cnt bs) (hc0 : 0 ≤ cnt) (hc1 : cnt ≤ 4611686018427387904) (hwf : A.wf) (hB : RdB w (.slice s0 sl sc) A.b) (he : A.err bs.length = 0) :
    Calls Tryz.prog 11 #[.pointer (some ⟨p, 0, none⟩), A.V (.slice s0 sl sc)] w fun e w' => ∃ r0 rl rc, e = .returned (.tuple #[.agg #[.int .u64 (A.ans bs).v, .bool (A.ans bs).d, .slice r0 rl rc], .int .i64 0]) ∧ OwB 5 w.heap.size w' (.slice r0 rl rc) (A.ans bs).b ∧ Buf w' p c (cnt + 1) (A.out bs) ∧ Keep (fun k => k = p ∨ k = c) w w' := by
  have hle := h.le
  obtain ⟨hz, h0, h1, h2, h3, h4, h5⟩ := acE_ok he (by omega)
  obtain ⟨k, a, n, v, x, b⟩ := A
  dsimp only at h0 h3
  obtain ⟨a, rfl⟩ := Int.eq_ofNat_of_zero_le h0
  obtain ⟨n, rfl⟩ := Int.eq_ofNat_of_zero_le h3
  have hl := rd_len hB
  dsimp only at hl hB
  refine (mDo_ok p c cnt bs k a n v x s0 sl sc b w h hc0 hc1 hwf.v0 hwf.v1 hwf.x0 hwf.x1 hB hwf.b (by rw [hl]; exact he)).mono ?_
  rintro e w' ⟨s, rfl, o, hb, k⟩
  obtain ⟨r0, rl, rc, rfl⟩ := o.isSliceC
  exact ⟨r0, rl, rc, rfl, o, hb, k⟩
/-- A row of rows of bytes, read at a place. -/
theorem rowB_at {w : World} {t0 : Option Addr} {tc : Nat} {L : List BytV} (hr : RdR w (.slice t0 L.length tc) 1 (L.map BytV.cs)) {k : Nat} {x : BytV} (hx : L[k]? = some x) : ∃ bk off, t0 = some ⟨bk, off, none⟩ ∧ w.cell? ⟨bk, off + k, none⟩ = some x.s ∧ L.length ≤ tc ∧ tc ≤ maxLen := by
  have hkl := (List.getElem?_eq_some_iff.1 hx).1
  rcases hr with ⟨e, e2⟩ | ⟨_, _, e, e2, _⟩ | ⟨bk, off, cap, e, h1, h2, hc⟩
  · have : L = [] := by simpa using e2
    rw [this] at hkl
    exact absurd hkl (Nat.not_lt_zero _)
  · have : L = [] := by simpa using e2
    rw [this] at hkl
    exact absurd hkl (Nat.not_lt_zero _)
  · rw [List.length_map] at e h1
    cases e
    exact ⟨bk, off, rfl, by have := hc k [x.s] (by rw [List.getElem?_map, hx]; rfl) 0 x.s rfl; simpa using this, h1, h2⟩
def ptP (x : Nat × PutM) : Value := .pointer (some ⟨x.1, 0, none⟩)
/-- What puts for messages are at their start. -/
def putsI (s : Nat) (L : List BytV) : List PutM := L.mapIdx fun i x => PutC.init ⟨0, s, ((1 + i : Nat) : Int), x.b⟩
theorem putsI_snoc {s k : Nat} {L : List BytV} {x : BytV} (h : L[k]? = some x) : putsI s (L.take (k + 1)) = putsI s (L.take k) ++ [PutC.init ⟨0, s, ((1 + k : Nat) : Int), x.b⟩] := by
  have hl := (List.getElem?_eq_some_iff.1 h).1
  unfold putsI
  rw [List.take_add_one, h]
  show ((L.take k) ++ [x]).mapIdx _ = _
  rw [List.mapIdx_concat]
  congr 3
  rw [List.length_take, Nat.min_eq_left (by omega)]
theorem putsI_at {s i : Nat} {L : List BytV} {m : PutM} (h : (putsI s L)[i]? = some m) : ∃ x, L[i]? = some x ∧ m = PutC.init ⟨0, s, ((1 + i : Nat) : Int), x.b⟩ := by
  unfold putsI at h
  rw [List.getElem?_mapIdx] at h
  obtain ⟨x, hx, rfl⟩ := Option.map_eq_some_iff.1 h
  exact ⟨x, hx, rfl⟩
theorem putsI_len (s : Nat) (L : List BytV) : (putsI s L).length = L.length := by simp [putsI]
structure PutsTo (w0 wr : World) (s : Nat) (ov : Value) (κ : Nat → Kd) (ss : List (Nat × PutM)) (L : List BytV) : Prop where
  md : ∃ qs, MdAt putFam w0 wr κ qs ss
  ow : wr.ownsRow 0 38 1 ov ss.length (ss.map ptP)
  om : ∀ g, ov.ownBlock = some g → w0.heap.size ≤ g ∧ κ g = .no
  eq : ss.map (·.2) = putsI s L
theorem PutsTo.below {w0 wr w' : World} {s : Nat} {ov : Value} {κ : Nat → Kd} {ss : List (Nat × PutM)} {L : List BytV} (h : PutsTo w0 wr s ov κ ss L) (b : Below wr.heap.size wr w') : PutsTo w0 w' s ov κ ss L := by
  obtain ⟨⟨qs, h1⟩, h2, h3, h4⟩ := h
  exact ⟨⟨qs, h1.below b⟩, ownsRow_keep h2 (Below.keeps (M := fun _ => False) b) (fun _ _ => id), h3, h4⟩
theorem PutsTo.bel {w0 wr : World} {s : Nat} {ov : Value} {κ : Nat → Kd} {ss : List (Nat × PutM)} {L : List BytV} (h : PutsTo w0 wr s ov κ ss L) : Below w0.heap.size w0 wr := h.md.elim fun _ h => h.bel
theorem PutsTo.len {w0 wr : World} {s : Nat} {ov : Value} {κ : Nat → Kd} {ss : List (Nat × PutM)} {L : List BytV} (h : PutsTo w0 wr s ov κ ss L) : ss.length = L.length := by
  have := congrArg List.length h.eq
  rwa [List.length_map, putsI_len] at this
theorem ptinfo : (Tryz.prog.info? 38).map (fun i => (i.zero, i.size, i.bytes)) = some (some (.pointer none), 1, 8) := by kernel_rfl
theorem PutsTo.next {w0 w2 w4 w5 : World} {s k : Nat} {ov ov' : Value} {κ : Nat → Kd} {ss : List (Nat × PutM)} {L : List BytV} {x : BytV} (h : PutsTo w0 w2 s ov κ ss (L.take k)) (hx : L[k]? = some x) (b4 : Below w2.heap.size w2 w4) {q : Nat} (hq : PutF w4 (fun i => w2.heap.size ≤ i ∧ i < w4.heap.size) q (PutC.init ⟨0, s, ((1 + k : Nat) : Int), x.b⟩))
    (K5 : Keep (fun i => ov.ownBlock = some i) w4 w5) (o5 : w5.ownsRow 0 38 1 ov' (ss.length + 1) (ss.map ptP ++ [.pointer (some ⟨q, 0, none⟩)])) (e5 : ov'.ownBlock = ov.ownBlock ∨ ∃ i, ov'.ownBlock = some i ∧ w4.heap.size ≤ i) :
    ∃ κ', PutsTo w0 w5 s ov' κ' (ss ++ [(q, PutC.init ⟨0, s, ((1 + k : Nat) : Int), x.b⟩)]) (L.take (k + 1)) := by
  obtain ⟨⟨qs, h1⟩, h2, h3, h4⟩ := h
  have h6 := h1.next (s := ((q, PutC.init ⟨0, s, ((1 + k : Nat) : Int), x.b⟩) : putFam.M.σ)) b4 ⟨rfl, hq⟩
  have hz := h1.bel.size
  have hz4 := b4.size
  have hno : ∀ i, ov.ownBlock = some i → kdM κ ss.length w2.heap.size w4.heap.size i = .no ∧ w0.heap.size ≤ i := fun i hi => ⟨(kdM_old (World.ownsRow.lt h2 i hi).2).trans (h3 i hi).2, (h3 i hi).1⟩
  refine ⟨_, ⟨_, h6.keep K5 hno⟩, ?_, ?_, ?_⟩
  · rw [List.length_append, List.map_append]
    exact o5
  · intro g hg
    rcases e5 with e | ⟨i, e, hi⟩
    · rw [e] at hg
      exact ⟨(hno g hg).2, (hno g hg).1⟩
    · rw [e] at hg
      cases hg
      refine ⟨by omega, ?_⟩
      unfold kdM
      rw [if_neg (by omega)]
      exact h1.no (.inl (by omega))
  · rw [List.map_append, h4, putsI_snoc hx]
    rfl
theorem PutsTo.start (w0 w : World) (s : Nat) (L : List BytV) (b : Below w0.heap.size w0 w) : PutsTo w0 w s (.slice none 0 0) (fun _ => .no) [] (L.take 0) :=
  ⟨⟨fun _ => 0, ⟨fun i s h => absurd (show (none : Option putFam.M.σ) = some s from h) nofun, fun b => .inl rfl, b⟩⟩, World.ownsRow_nil _ _ _ _, (fun g h => by cases h), rfl⟩
theorem PutsTo.early {w w0 wr : World} {s : Nat} {ov : Value} {κ : Nat → Kd} {ss : List (Nat × PutM)} {L : List BytV} (h : PutsTo w0 wr s ov κ ss L) (b : Below w.heap.size w w0) : PutsTo w wr s ov κ ss L := by
  obtain ⟨⟨qs, h1⟩, h2, h3, h4⟩ := h
  have hz := b.size
  refine ⟨⟨qs, h1.mac, fun b => ?_, b.trans (h1.bel.mono hz)⟩, h2, fun g hg => ⟨by have := (h3 g hg).1; omega, (h3 g hg).2⟩, h4⟩
  rcases h1.kd b with e | ⟨e1, e2, e3⟩
  · exact .inl e
  · exact .inr ⟨e1, by omega, e3⟩
end Go.Proofs.YtknahaaefmlcpaaGreat
end
section
namespace Go.Proofs.YtknahaaefmlcpaaGreat
set_option maxRecDepth 100000
open Go.RowKit
set_option linter.unusedVariables false
set_option linter.unusedSimpArgs false
theorem MsIn.ms_cell {w : World} {O R : Nat → Prop} {v : Value} {l : List (Int × List Int)} (h : MsIn w O R v l) {k : Nat} {t : Int} {d : List Int} (hk : l[k]? = some (t, d)) : ∃ g c s0 sl sc, v = .slice (some ⟨g, 0, none⟩) l.length c ∧ w.cell? ⟨g, k * 2, none⟩ = some (.int .i32 t) ∧ w.cell? ⟨g, k * 2 + 1, none⟩ = some (.slice s0 sl sc) ∧ RdB w (.slice s0 sl sc) d := by
  obtain ⟨⟨es, he, ho, hes⟩, _⟩ := h
  have hkl : k < l.length := (List.getElem?_eq_some_iff.1 hk).1
  have hel : es.length = l.length := by rw [← he, List.length_map]
  obtain ⟨e, hek⟩ : ∃ e, es[k]? = some e := ⟨_, List.getElem?_eq_getElem (by omega)⟩
  have h1 : e.1 = (t, d) := by
    rw [← he, List.getElem?_map, hek] at hk
    exact Option.some.inj hk
  obtain ⟨h2, _⟩ := hes e (List.mem_of_getElem? hek)
  obtain ⟨m1, m2⟩ := ms_at es k e hek
  obtain ⟨e1, e2⟩ := e
  dsimp only at h1 h2 m1 m2
  subst h1
  obtain ⟨sa, sl, sc, rfl⟩ := h2.isSl
  rcases ho.2 with ⟨_, h0⟩ | ⟨g, cap, cur, rfl, _⟩
  · omega
  · refine ⟨g, cap, sa, sl, sc, by rw [hel], ?_, ?_, h2⟩
    · rw [World.ownsRow.cellAt ho _ (by omega), m1]
    · rw [World.ownsRow.cellAt ho _ (by omega), m2]
theorem MsIn.none (w : World) (O R : Nat → Prop) : MsIn w O R (.slice none 0 0) [] := ⟨⟨[], rfl, World.ownsRow_nil _ _ _ _, fun e he => (List.not_mem_nil he).elim⟩, fun i hi => by cases hi⟩
/-- Messages appended to messages. -/
theorem list_appMs {w : World} {ops : Array Oper} {rest : List Oper} {o : Oper} {a : Act} {Q : Exit → Act → World → Prop} (hgd : o.guard = none) (s x : Operand)
    (ho : o.op = .call { callee := .builtin .append, args := #[s, x], argTypes := #[66, 66] }) {O R O2 R2 : Nat → Prop} {v v2 : Value} {l l2 : List (Int × List Int)} (hs : a.eval s = v) (hx : a.eval x = v2) (h1 : MsIn w O R v l) (h2 : MsIn w O2 R2 v2 l2) (hn : l.length + l2.length ≤ 100000) (hd : ∀ i, O i ∨ O2 i → ¬ R i)
    (h : ∀ v' w', MsIn w' (fun i => O i ∨ O2 i) (fun i => R i ∨ (w.heap.size ≤ i ∧ i < w'.heap.size)) v' (l ++ l2) → Keep R w w' → wpList Tryz.prog ops Q rest (a.put o.dst v') w') : wpList Tryz.prog ops Q (o :: rest) a w := by
  obtain ⟨i0, hi, hz0, hz1, hz2⟩ := info_parts msinfo
  obtain ⟨⟨es, he, ho1, hes⟩, hr⟩ := h1
  obtain ⟨⟨es2, he2, ho2, hes2⟩, hr2⟩ := h2
  have hel : es.length = l.length := by rw [← he, List.length_map]
  have hel2 : es2.length = l2.length := by rw [← he2, List.length_map]
  rcases ho2.2 with ⟨rfl, h0⟩ | ⟨g, cap, cur, rfl, _⟩
  · have e0 : es2 = [] := List.eq_nil_of_length_eq_zero h0
    have el : l2 = [] := by rw [← he2, e0]; rfl
    refine wpList_plain hgd fun _ hK => ?_
    have hr' := run_append_owned_none (P := Tryz.prog) w 0 66 o.type 84 i0 2 Tryz.underlying66 hi v es.length _ ho1
    unfold Oper.wp execOp
    simp only [ho, resolve, invoke, builtin, Sem.run_bind, Sem.run_pure, Result.andThen_ok, List.map_toArray, List.map_cons, List.map_nil, hs, hx, hr']
    refine hK _ _ (h _ _ ⟨⟨es, by rw [el, List.append_nil]; exact he, ho1, fun e hm => ⟨(hes e hm).1, fun i hi => .inl ((hes e hm).2 i hi)⟩⟩, fun i hi => .inl (hr i hi)⟩ (Keep.refl _ _))
  · have hnews : ∀ j u, (es2.flatMap msL)[j]? = some u → w.cell? ⟨g, j, none⟩ = some u := by
      intro j u hu
      have hj : j < es2.length * 2 := by have := (List.getElem?_eq_some_iff.1 hu).1; rwa [msL_flat] at this
      rw [World.ownsRow.cellAt ho2 j hj]
      exact hu
    refine list_appN hgd s x 66 84 ho Tryz.underlying66 hi hz0 hz1 hz2 rfl (by decide) v es.length _ hs ho1 g es2.length cap (es2.flatMap msL) hx hnews (msL_flat es2) (ones_ms es2 w fun e he => (hes2 e he).1) (by omega) (by unfold maxLen; omega) ?_
    intro v' w' o3 g3 e3
    have K3 : Keep R w w' := (grown_keep g3).mono (fun i _ hi => hr i hi)
    refine h v' w' ⟨⟨es ++ es2, by rw [List.map_append, he, he2], by rw [List.length_append, List.flatMap_append]; exact o3, fun e hm => ?_⟩, fun i hi => ?_⟩ K3
    · rcases List.mem_append.1 hm with hm | hm
      · exact ⟨(hes e hm).1.keepP K3 (fun i hi => hd i (.inl ((hes e hm).2 i hi))), fun i hi => .inl ((hes e hm).2 i hi)⟩
      · exact ⟨(hes2 e hm).1.keepP K3 (fun i hi => hd i (.inr ((hes2 e hm).2 i hi))), fun i hi => .inr ((hes2 e hm).2 i hi)⟩
    · rcases e3 with e | e
      · rw [e] at hi
        exact .inl (hr i hi)
      · have hlt := (World.ownsRow.lt o3 i hi).2
        rw [e] at hi
        cases hi
        exact .inr ⟨Nat.le_refl _, hlt⟩
/-- What is asked of messages that were got. -/
structure Ordd (P : List PutM) (L : List BytV) (out : List (Int × List Int)) (last : Nat → Int) : Prop where
  l0 : last 0 = -1
  n : out.length = okN P
  at_ : ∀ j t d, out[j]? = some (t, d) → last j < last (j + 1) ∧ ∃ (i : Nat) (m : PutM) (x : BytV), P[i]? = some m ∧ L[i]? = some x ∧ m.e = 0 ∧ t = (1 + (i : Int)) ∧ x.b = d ∧ m.pos = last (j + 1)
theorem okN_take {P : List PutM} {k : Nat} {m : PutM} (h : P[k]? = some m) : okN (P.take (k + 1)) = okN (P.take k) + (if m.e = 0 then 1 else 0) := by
  unfold okN
  rw [List.take_add_one, h, List.filter_append, List.length_append]
  congr 1
  by_cases he : m.e = 0
  · simp [he]
  · simp [he]
end Go.Proofs.YtknahaaefmlcpaaGreat
end
section
namespace Go.Proofs.YtknahaaefmlcpaaGreat
set_option maxRecDepth 100000
open Go.RowKit
set_option linter.unusedVariables false
set_option linter.unusedSimpArgs false
theorem row_cnt (M : Mac) (most : Int) : ∀ (L : List Nat) (S : SW M.σ) (n : Int) (g : Bool), S.cnt ≤ (M.row most L S n g).1.cnt ∧ (M.row most L S n g).1.cnt - S.cnt ≤ (M.row most L S n g).2.1 - n ∧ ((M.row most L S n g).2.1 ≤ most ∨ (M.row most L S n g).2.1 = n)
  | [], S, n, g => ⟨Int.le_refl _, by show S.cnt - S.cnt ≤ n - n; omega, .inr rfl⟩
  | i :: L, S, n, g => by
    unfold Mac.row
    split
    · exact row_cnt M most L S n g
    split
    · exact ⟨Int.le_refl _, by show S.cnt - S.cnt ≤ n - n; omega, .inr rfl⟩
    · obtain ⟨h1, h2, h3⟩ := row_cnt M most L (M.pick S 0 i 0).1 (n + 1) true
      obtain ⟨_, _, h4, h5⟩ := pick_facts M S 0 i 0
      refine ⟨by omega, by omega, ?_⟩
      rcases h3 with h3 | h3
      · exact .inl h3
      · exact .inl (by omega)
theorem rob_cnt (M : Mac) (most : Int) : ∀ (f : Nat) (S : SW M.σ) (n : Int), S.cnt ≤ (M.rob most f S n).1.cnt ∧ (M.rob most f S n).1.cnt - S.cnt ≤ (M.rob most f S n).2 - n ∧ ((M.rob most f S n).2 ≤ most ∨ (M.rob most f S n).2 = n)
  | 0, S, n => ⟨Int.le_refl _, by show S.cnt - S.cnt ≤ n - n; omega, .inr rfl⟩
  | f + 1, S, n => by
    unfold Mac.rob
    obtain ⟨h1, h2, h3⟩ := row_cnt M most (List.range S.acts.length) S n false
    split
    · obtain ⟨k1, k2, k3⟩ := rob_cnt M most f (M.row most (List.range S.acts.length) S n false).1 (M.row most (List.range S.acts.length) S n false).2.1
      refine ⟨by omega, by omega, ?_⟩
      rcases k3 with k3 | k3
      · exact .inl k3
      · rcases h3 with h3 | h3
        · exact .inl (by omega)
        · exact .inr (by omega)
    · exact ⟨h1, h2, h3⟩
theorem robin_cnt (M : Mac) (most : Int) (hm : 0 ≤ most) (S : SW M.σ) : S.cnt ≤ (M.robin most S).1.cnt ∧ (M.robin most S).1.cnt ≤ S.cnt + most := by
  obtain ⟨h1, h2, h3⟩ := rob_cnt M most (most.toNat + 2) S 0
  unfold Mac.robin
  exact ⟨h1, by omega⟩
theorem PutF.of {w : World} {κ : Nat → Kd} {W p c : Nat} {av tv : Value} {ab : Nat → Nat} {S : SW putMacQ.σ} (h : WoIn putFam w κ W p c av tv ab S) {L : List (Nat × PutM)} (ha : S.acts = actsQ (σ := Nat × PutM) L) {i q : Nat} {m : PutM} (hi : L[i]? = some (q, m)) : ∃ F, PutF w F q m := by
  have h1 : S.acts[i]? = some ⟨some (q, m), false⟩ := by rw [ha]; exact actsQ_at hi
  obtain ⟨_, mv, _, q', _, e, hv⟩ := h.act i _ h1
  dsimp only at e hv
  subst e
  exact ⟨_, hv⟩
theorem msgs_le : ∀ (A : List (Slot × Nat)), (∀ x ∈ A, x.1.ok) → 8 * (msgs A).length ≤ ln A
  | [], _ => Nat.le_refl _
  | (x, i) :: r, h => by
    have ih := msgs_le r (fun y hy => h y (List.mem_cons_of_mem _ hy))
    have h8 : 8 ≤ x.n := (h (x, i) (List.mem_cons_self ..)).n0
    have e : ln ((x, i) :: r) = x.n + ln r := rfl
    rw [e]
    cases x with
    | w t d n =>
      show 8 * ((msgs r).length + 1) ≤ _
      omega
    | z n => show 8 * (msgs r).length ≤ _; omega
    | p n _ _ => show 8 * (msgs r).length ≤ _; omega
    | b _ _ n _ => show 8 * (msgs r).length ≤ _; omega
/-- A world of puts over a ring, a get beside it, the messages that were got. -/
structure OrdAt (wm wr : World) (κm κ : Nat → Kd) (s W p c : Nat) (av tv : Value) (ab : Nat → Nat) (Ks : List (Nat × PutC)) (n : Nat) (gv : Value) (q : Nat) (gm : GetM) (A : List (Slot × Nat)) (kk H : Nat) (F : List (List Int)) (k0 : Nat) (L : List (Nat × PutM)) (S : SW putMacQ.σ) (FG O R : Nat → Prop) : Prop where
  wo : WoIn putFam wr κ W p c av tv ab S
  pg : PG 0 s A kk H F k0 gm L S
  key : keyQ L = Ks
  kd : ∀ i, i < wm.heap.size → κ i = κm i
  kp : Keep (fun i => κm i ≠ .no) wm wr
  gf : GetF wr FG q gm
  ms : MsIn wr O R gv (msgs (A.take k0))
  mem : ∀ i, FG i ∨ O i ∨ R i → (wm.heap.size ≤ i ∧ i < wr.heap.size) ∧ κ i = .no
  dj : ∀ i, FG i → ¬ (O i ∨ R i)
  dr : ∀ i, O i → ¬ R i
  hb : H ≤ n * s
  c0 : 0 ≤ S.cnt
  c1 : S.cnt ≤ 10001 * (n : Int)
theorem OrdAt.below {wm wr w' : World} {κm κ : Nat → Kd} {s W p c : Nat} {av tv : Value} {ab : Nat → Nat} {Ks : List (Nat × PutC)} {n : Nat} {gv : Value} {q : Nat} {gm : GetM} {A : List (Slot × Nat)} {kk H : Nat} {F : List (List Int)} {k0 : Nat} {L : List (Nat × PutM)} {S : SW putMacQ.σ} {FG O R : Nat → Prop}
    (h : OrdAt wm wr κm κ s W p c av tv ab Ks n gv q gm A kk H F k0 L S FG O R) (b : Below wr.heap.size wr w') : OrdAt wm w' κm κ s W p c av tv ab Ks n gv q gm A kk H F k0 L S FG O R :=
  ⟨h.wo.below b, h.pg, h.key, h.kd, h.kp.trans (Below.keeps b), h.gf.below b, h.ms.keep (M := fun _ => False) (Below.keeps b) (fun _ _ => id) (fun _ _ => id), fun i hi => ⟨⟨(h.mem i hi).1.1, Nat.lt_of_lt_of_le (h.mem i hi).1.2 b.size⟩, (h.mem i hi).2⟩, h.dj, h.dr, h.hb, h.c0, h.c1⟩
theorem OrdAt.len {wm wr : World} {κm κ : Nat → Kd} {s W p c : Nat} {av tv : Value} {ab : Nat → Nat} {Ks : List (Nat × PutC)} {n : Nat} {gv : Value} {q : Nat} {gm : GetM} {A : List (Slot × Nat)} {kk H : Nat} {F : List (List Int)} {k0 : Nat} {L : List (Nat × PutM)} {S : SW putMacQ.σ} {FG O R : Nat → Prop}
    (h : OrdAt wm wr κm κ s W p c av tv ab Ks n gv q gm A kk H F k0 L S FG O R) : L.length = Ks.length := by
  rw [← h.key]
  simp [keyQ]
theorem OrdAt.alen {wm wr : World} {κm κ : Nat → Kd} {s W p c : Nat} {av tv : Value} {ab : Nat → Nat} {Ks : List (Nat × PutC)} {n : Nat} {gv : Value} {q : Nat} {gm : GetM} {A : List (Slot × Nat)} {kk H : Nat} {F : List (List Int)} {k0 : Nat} {L : List (Nat × PutM)} {S : SW putMacQ.σ} {FG O R : Nat → Prop}
    (h : OrdAt wm wr κm κ s W p c av tv ab Ks n gv q gm A kk H F k0 L S FG O R) : S.acts.length = Ks.length := by
  rw [h.pg.acts]
  exact (actsQ_len L).trans h.len
theorem OrdAt.few {wm wr : World} {κm κ : Nat → Kd} {s W p c : Nat} {av tv : Value} {ab : Nat → Nat} {Ks : List (Nat × PutC)} {n : Nat} {gv : Value} {q : Nat} {gm : GetM} {A : List (Slot × Nat)} {kk H : Nat} {F : List (List Int)} {k0 : Nat} {L : List (Nat × PutM)} {S : SW putMacQ.σ} {FG O R : Nat → Prop}
    (h : OrdAt wm wr κm κ s W p c av tv ab Ks n gv q gm A kk H F k0 L S FG O R) (hs : s ≤ 512) (hn : n ≤ 1000) : H + s ≤ 512512 ∧ ln A ≤ 512512 ∧ ∀ B : List (Slot × Nat), B = A ∨ (∃ k, B = A.take k) ∨ (∃ k j, B = (A.take k).drop j) → (msgs B).length ≤ 64064 := by
  have h1 : n * s ≤ 1000 * 512 := Nat.mul_le_mul hn hs
  have h2 := h.hb
  have h3 := h.pg.inv.fit
  have h4 := msgs_le A h.pg.inv.ok
  refine ⟨by omega, by omega, ?_⟩
  have hk : ∀ k, (msgs (A.take k)).length ≤ (msgs A).length := fun k => by
    conv => rhs; rw [← List.take_append_drop k A, msgs_app, List.length_append]
    omega
  rintro B (rfl | ⟨k, rfl⟩ | ⟨k, j, rfl⟩)
  · omega
  · have := hk k
    omega
  · have h5 := hk k
    have h6 : (msgs ((A.take k).drop j)).length ≤ (msgs (A.take k)).length := by
      conv => rhs; rw [← List.take_append_drop j (A.take k), msgs_app, List.length_append]
      omega
    omega
/-- A pick of a put. -/
theorem OrdAt.put {wm wr w' : World} {κm κ : Nat → Kd} {s W p c : Nat} {av tv : Value} {ab : Nat → Nat} {Ks : List (Nat × PutC)} {n : Nat} {gv : Value} {q : Nat} {gm : GetM} {A : List (Slot × Nat)} {kk H : Nat} {F : List (List Int)} {k0 : Nat} {L : List (Nat × PutM)} {S : SW putMacQ.σ} {FG O R : Nat → Prop} {e : Ending}
    (h : OrdAt wm wr κm κ s W p c av tv ab Ks n gv q gm A kk H F k0 L S FG O R) (hs : s ≤ 512) (hn : n ≤ 1000) {j : Nat} (hj : j < Ks.length) (hp : PickPost putFam wr κ W p c av tv ab (putMacQ.pick S 0 j 0) e w') :
    ∃ κ' tv' A' L', OrdAt wm w' κm κ' s W p c av tv' ab Ks (n + 1) gv q gm A' kk H F k0 L' (putMacQ.pick S 0 j 0).1 FG O R := by
  obtain ⟨_, _, _, _, _, _, _, _, _, κ', tv', hw, hk, _, kp⟩ := hp
  obtain ⟨f1, f2, f3⟩ := h.few hs hn
  obtain ⟨⟨qj, mj⟩, hLj⟩ : ∃ x, L[j]? = some x := ⟨_, List.getElem?_eq_getElem (by have := h.len; omega)⟩
  obtain ⟨A', L', hP, ht, hkey, _⟩ := h.pg.pick hLj (by omega)
  obtain ⟨t1, _, t3, t4⟩ := pick_facts putMacQ S 0 j 0
  have hle := h.pg.rel.le
  have hkm : A'.take k0 = A.take k0 := by
    have := congrArg (List.take k0) ht
    rwa [List.take_take, List.take_take, Nat.min_eq_left hle] at this
  have hno : ∀ i, FG i ∨ O i ∨ R i → ¬ κ i ≠ .no := fun i hi hn => hn (h.mem i hi).2
  have hz := h.kp.size
  refine ⟨κ', tv', A', L', hw, hP, hkey.trans h.key, fun i hi => (hk i (by omega)).trans (h.kd i hi), ?_, h.gf.keep kp (fun i hi => hno i (.inl hi)), by rw [hkm]; exact h.ms.keep kp (fun i hi => hno i (.inr (.inl hi))) (fun i hi => hno i (.inr (.inr hi))), fun i hi => ⟨⟨(h.mem i hi).1.1, Nat.lt_of_lt_of_le (h.mem i hi).1.2 kp.size⟩, (hk i (h.mem i hi).1.2).trans (h.mem i hi).2⟩, h.dj, h.dr, ?_, ?_, ?_⟩
  · exact h.kp.then kp (fun i hi hn => by rw [h.kd i hi] at hn; exact hn)
  · have := h.hb
    rw [Nat.add_mul]
    omega
  · have := h.c0
    omega
  · have := h.c1
    omega
/-- The get's own access. -/
theorem OrdAt.get {wm wr w' : World} {κm κ : Nat → Kd} {s W p c : Nat} {av tv : Value} {ab : Nat → Nat} {Ks : List (Nat × PutC)} {n : Nat} {gv : Value} {q : Nat} {gm : GetM} {A : List (Slot × Nat)} {kk H : Nat} {F : List (List Int)} {k0 : Nat} {L : List (Nat × PutM)} {S : SW putMacQ.σ} {FG O R : Nat → Prop}
    (h : OrdAt wm wr κm κ s W p c av tv ab Ks n gv q gm A kk H F k0 L S FG O R) (hs : s ≤ 512) (hn : n ≤ 1000) (hl : gm.live = true) : gm.want.err S.bs.length = 0 ∧
    ∀ w' F', Keep (fun i => FG i ∨ i = p ∨ i = c) wr w' → Buf w' p c (S.cnt + 1) (gm.want.out S.bs) → GetF w' F' q (gm.step (gm.want.ans S.bs)) → (∀ i, F' i → FG i ∨ wr.heap.size ≤ i) → ∃ kk' H' F2, OrdAt wm w' κm κ s W p c av tv ab Ks (n + 1) gv q (gm.step (gm.want.ans S.bs)) A kk' H' F2 k0 L { S with bs := gm.want.out S.bs, cnt := S.cnt + 1 } F' O R := by
  obtain ⟨f1, f2, f3⟩ := h.few hs hn
  obtain ⟨herr, kk', H', F2, hP, hH, _⟩ := h.pg.get hl (by omega)
  refine ⟨herr, fun w' F' k hB hG hF => ⟨kk', H', F2, ?_⟩⟩
  have hpc : ∀ i, κ i = .no → ¬ (i = p ∨ i = c) := by
    rintro i hi (rfl | rfl)
    · rw [h.wo.kp] at hi
      cases hi
    · rw [h.wo.kc] at hi
      cases hi
  have hF2 : ∀ i, F' i → (wm.heap.size ≤ i ∧ i < w'.heap.size) ∧ κ i = .no := fun i hi => by
    have h1 := hG.2.1 i hi
    rcases hF i hi with h2 | h2
    · exact ⟨⟨(h.mem i (.inl h2)).1.1, h1⟩, (h.mem i (.inl h2)).2⟩
    · exact ⟨⟨by have := h.kp.size; omega, h1⟩, no_big h.wo h2⟩
  refine ⟨h.wo.beside k (fun i hi => hi.imp (fun hi => (h.mem i (.inl hi)).2) id) hB, hP _ rfl rfl, h.key, h.kd, ?_, hG, ?_, ?_, ?_, h.dr, ?_, ?_, ?_⟩
  · refine h.kp.then k (fun i hi hn => ?_)
    rcases hn with hn | hn
    · have := (h.mem i (.inl hn)).1.1
      omega
    · rw [← h.kd i hi]
      exact fun e => hpc i e hn
  · refine h.ms.keep k (fun i hi hn => ?_) (fun i hi hn => ?_)
    · rcases hn with hn | hn
      · exact h.dj i hn (.inl hi)
      · exact hpc i (h.mem i (.inr (.inl hi))).2 hn
    · rcases hn with hn | hn
      · exact h.dj i hn (.inr hi)
      · exact hpc i (h.mem i (.inr (.inr hi))).2 hn
  · intro i hi
    rcases hi with hi | hi
    · exact hF2 i hi
    · exact ⟨⟨(h.mem i (.inr hi)).1.1, Nat.lt_of_lt_of_le (h.mem i (.inr hi)).1.2 k.size⟩, (h.mem i (.inr hi)).2⟩
  · intro i hi ho
    rcases hF i hi with h2 | h2
    · exact h.dj i h2 ho
    · have := (h.mem i (.inr ho)).1.2
      omega
  · have := h.hb
    rw [Nat.add_mul]
    omega
  · have := h.c0
    show 0 ≤ S.cnt + 1
    omega
  · have := h.c1
    show S.cnt + 1 ≤ 10001 * ((n + 1 : Nat) : Int)
    omega
/-- Its messages are taken, and a new get is made. -/
theorem OrdAt.fresh {wm wr w1 w2 w' : World} {κm κ : Nat → Kd} {s W p c : Nat} {av tv : Value} {ab : Nat → Nat} {Ks : List (Nat × PutC)} {n : Nat} {gv gv' : Value} {q q' : Nat} {gm : GetM} {A : List (Slot × Nat)} {kk H : Nat} {F : List (List Int)} {k0 : Nat} {L : List (Nat × PutM)} {S : SW putMacQ.σ} {FG O R O2 : Nat → Prop} {c' : GetC}
    (h : OrdAt wm wr κm κ s W p c av tv ab Ks n gv q gm A kk H F k0 L S FG O R) (hl : gm.live = false) (hc : c'.ok = true) (hb : c'.b = (0 : Nat)) (hs : c'.s = s) (b1 : Below wr.heap.size wr w1) (hO : ∀ i, O2 i → wr.heap.size ≤ i ∧ i < w1.heap.size)
    (k2 : Keep R w1 w2) (hm : MsIn w2 (fun i => O i ∨ O2 i) (fun i => R i ∨ (w1.heap.size ≤ i ∧ i < w2.heap.size)) gv' (msgs (A.take k0) ++ gm.out)) (b3 : Below w2.heap.size w2 w') (hg : GetF w' (fun k => w2.heap.size ≤ k ∧ k < w'.heap.size) q' (GetC.init c')) :
    F = [] ∧ OrdAt wm w' κm κ s W p c av tv ab Ks (n + 1) gv' q' (GetC.init c') A kk H [] kk L S (fun k => w2.heap.size ≤ k ∧ k < w'.heap.size) (fun i => O i ∨ O2 i) (fun i => R i ∨ (w1.heap.size ≤ i ∧ i < w2.heap.size)) := by
  obtain ⟨hF, hmsg, hP⟩ := h.pg.fresh hl hc hb hs
  subst hF
  have z0 := h.kp.size
  have z1 := b1.size
  have z2 := k2.size
  have z3 := b3.size
  rw [hmsg] at hm
  have h1 := h.below b1
  have big : ∀ i, wr.heap.size ≤ i → κ i = .no := fun i hi => no_big h.wo hi
  refine ⟨rfl, (h1.wo.keep k2 (fun i hi hr => hi (h.mem i (.inr (.inr hr))).2)).below b3, hP, h.key, h.kd, ?_, hg, hm.keep (M := fun _ => False) (Below.keeps b3) (fun _ _ => id) (fun _ _ => id), ?_, ?_, ?_, ?_, h.c0, ?_⟩
  · refine (h1.kp.then k2 (fun i hi hr => ?_)).trans (Below.keeps b3)
    have := (h.mem i (.inr (.inr hr))).1.1
    omega
  · rintro i (hi | (hi | hi) | (hi | hi))
    · exact ⟨⟨by omega, hi.2⟩, big i (by omega)⟩
    · have := h.mem i (.inr (.inl hi))
      exact ⟨⟨this.1.1, by omega⟩, this.2⟩
    · have := hO i hi
      exact ⟨⟨by omega, by omega⟩, big i (by omega)⟩
    · have := h.mem i (.inr (.inr hi))
      exact ⟨⟨this.1.1, by omega⟩, this.2⟩
    · exact ⟨⟨by omega, by omega⟩, big i (by omega)⟩
  · rintro i hi ((ho | ho) | (ho | ho))
    · have := h.mem i (.inr (.inl ho))
      omega
    · have := hO i ho
      omega
    · have := h.mem i (.inr (.inr ho))
      omega
    · omega
  · rintro i (ho | ho) (hr | hr)
    · exact h.dr i ho hr
    · have := h.mem i (.inr (.inl ho))
      omega
    · have := h.mem i (.inr (.inr hr))
      have := hO i ho
      omega
    · have := hO i ho
      omega
  · have := h.hb
    rw [Nat.add_mul]
    omega
  · have := h.c1
    omega
/-- All puts run to their end. -/
theorem OrdAt.robin {wm wr w' : World} {κm κ : Nat → Kd} {s W p c : Nat} {av tv : Value} {ab : Nat → Nat} {Ks : List (Nat × PutC)} {n : Nat} {gv : Value} {q : Nat} {gm : GetM} {A : List (Slot × Nat)} {kk H : Nat} {F : List (List Int)} {k0 : Nat} {L : List (Nat × PutM)} {S : SW putMacQ.σ} {FG O R : Nat → Prop} {e : Ending}
    (h : OrdAt wm wr κm κ s W p c av tv ab Ks n gv q gm A kk H F k0 L S FG O R) (hs : s ≤ 512) (hn : n ≤ 1000) (h8 : Ks.length ≤ 8) (hd : ∀ x ∈ Ks, x.2.d.length ≤ 200) (hp : RobPost putFam wr κ W p c av ab (putMacQ.robin 10000 S) e w') :
    ∃ κ' tv' A' L', OrdAt wm w' κm κ' s W p c av tv' ab Ks (n + 1) gv q gm A' kk H F k0 L' (putMacQ.robin 10000 S).1 FG O R ∧ ∀ x ∈ L', x.2.live = false := by
  obtain ⟨_, κ', tv', hw, hk, kp⟩ := hp
  obtain ⟨f1, f2, f3⟩ := h.few hs hn
  have hL := h.len
  obtain ⟨A', L', hP, ht, hkey, hdead⟩ := h.pg.robin (by omega) (by omega) (fun x hx => by
    have : (x.1, x.2.c) ∈ Ks := by rw [← h.key]; exact List.mem_map.2 ⟨x, hx, rfl⟩
    exact hd _ this)
  obtain ⟨t3, t4⟩ := robin_cnt putMacQ 10000 (by decide) S
  have hle := h.pg.rel.le
  have hkm : A'.take k0 = A.take k0 := by
    have := congrArg (List.take k0) ht
    rwa [List.take_take, List.take_take, Nat.min_eq_left hle] at this
  have hno : ∀ i, FG i ∨ O i ∨ R i → ¬ κ i ≠ .no := fun i hi hn => hn (h.mem i hi).2
  have hz := h.kp.size
  refine ⟨κ', tv', A', L', ⟨hw, hP, hkey.trans h.key, fun i hi => (hk i (by omega)).trans (h.kd i hi), ?_, h.gf.keep kp (fun i hi => hno i (.inl hi)), by rw [hkm]; exact h.ms.keep kp (fun i hi => hno i (.inr (.inl hi))) (fun i hi => hno i (.inr (.inr hi))), fun i hi => ⟨⟨(h.mem i hi).1.1, Nat.lt_of_lt_of_le (h.mem i hi).1.2 kp.size⟩, (hk i (h.mem i hi).1.2).trans (h.mem i hi).2⟩, h.dj, h.dr, ?_, ?_, ?_⟩, hdead⟩
  · exact h.kp.then kp (fun i hi hn => by rw [h.kd i hi] at hn; exact hn)
  · have := h.hb
    rw [Nat.add_mul]
    omega
  · have := h.c0
    omega
  · have := h.c1
    omega
theorem GRel.rem_le {b s : Nat} {bs : List Int} {P : List PutM} {A : List (Slot × Nat)} {k H k0 : Nat} {F : List (List Int)} {g : GetM} (hg : GRel b s A k H F k0 g) (h : Inv b s bs P A k H F) (hs : s ≤ 512) : g.rem ≤ 10000 := by
  obtain ⟨c, pc, hd, first, dn, out, odd, e⟩ := g
  cases pc with
  | done => exact Nat.zero_le _
  | hd0 =>
    have h2 : c.s = s := hg.2.1
    show (c.s + c.s / 8).toNat + 6 ≤ _
    omega
  | rc =>
    have h2 : c.s = s := hg.1.cs
    have h3 : first = (H % s : Nat) := hg.1.fi
    have h4 : dn = (tot F : Nat) := hg.1.dn
    show (c.s - first - dn + c.s / 8).toNat + 5 ≤ _
    omega
  | rd sz typ p n hv =>
    obtain ⟨a1, a2, a3, d, N, i, q, a4, a5, a6, _⟩ := hg
    have h2 : c.s = s := a1.cs
    have h3 : first = (H % s : Nat) := a1.fi
    have h4 : dn = (tot F : Nat) := a1.dn
    obtain ⟨o1, o2, o3, _, _, _, o4⟩ := h.ok _ (List.mem_of_getElem? a4)
    have o3 : N ≤ 8192 := o3
    show (c.s - first - dn - sz + c.s / 8).toNat + 6 + (n / 8).toNat ≤ _
    omega
  | zr p n =>
    obtain ⟨a1, cc, z, rfl, a2, a3, _⟩ := hg
    have h5 := a1.le
    rw [tot_one] at h5
    show 2 + (n / 8).toNat ≤ _
    omega
  | st => show 1 ≤ _; omega
/-- The get runs to its end, alone. -/
theorem OrdAt.solo {wm wr w' : World} {κm κ : Nat → Kd} {s W p c : Nat} {av tv : Value} {ab : Nat → Nat} {Ks : List (Nat × PutC)} {n : Nat} {gv : Value} {q : Nat} {gm : GetM} {A : List (Slot × Nat)} {kk H : Nat} {F : List (List Int)} {k0 : Nat} {L : List (Nat × PutM)} {S : SW putMacQ.σ} {FG O R : Nat → Prop}
    (h : OrdAt wm wr κm κ s W p c av tv ab Ks n gv q gm A kk H F k0 L S FG O R) (hs : s ≤ 512) (hn : n ≤ 1000) : ∃ g' k' H' bs' r, GEnded False 0 s S.bs (L.map (·.2)) A kk H F k0 gm r bs' k' H' g' ∧ r ≤ 10000 ∧
    (getMacQ.robin 10000 ⟨S.bs, S.cnt, [⟨some (q, gm), false⟩], 0, []⟩).1.acts = [⟨some (q, g'), false⟩] ∧
    ∀ w', SoloPost getFam wr w' p c FG (getMacQ.robin 10000 ⟨S.bs, S.cnt, [⟨some (q, gm), false⟩], 0, []⟩).1 → ∃ F', OrdAt wm w' κm κ s W p c av tv ab Ks (n + 1) gv q g' A k' H' [] k0 L { S with bs := bs', cnt := S.cnt + r } F' O R := by
  obtain ⟨f1, f2, f3⟩ := h.few hs hn
  obtain ⟨r, bs', k', H', g', hE⟩ := get_ends (by omega) gm.rem h.pg.inv h.pg.rel (Nat.le_refl _)
  have hrem : gm.rem ≤ 10000 := h.pg.rel.rem_le h.pg.inv hs
  have hr : r ≤ 10000 := Nat.le_trans hE.few hrem
  have hR := robin_runs (M := getMacQ) 10000 (Runs.gq q hE.runs) hE.fin (by omega) S.cnt
  refine ⟨g', k', H', bs', r, hE, hr, hR.2.1, fun w' hS => ?_⟩
  obtain ⟨s', d, F', q', ha, hi, hp', hc', hF⟩ := hS.ex
  have ha' := ha.symm.trans hR.2.1
  injection ha' with e1 _
  injection e1 with e2 e3
  injection e2 with e4
  subst e3 e4
  obtain ⟨e, hG⟩ := hi
  dsimp only at e hG
  subst e
  have hB := hS.buf
  rw [hR.2.2.1, hR.2.2.2] at hB
  have k := hS.keep
  have hpc : ∀ i, κ i = .no → ¬ (i = p ∨ i = c) := by
    rintro i hi (rfl | rfl)
    · rw [h.wo.kp] at hi
      cases hi
    · rw [h.wo.kc] at hi
      cases hi
  refine ⟨F', h.wo.beside k (fun i hi => hi.imp (fun hi => (h.mem i (.inl hi)).2) id) hB, ⟨h.pg.acts, hE.inv, hE.rel⟩, h.key, h.kd, ?_, hG, ?_, ?_, ?_, h.dr, ?_, ?_, ?_⟩
  · refine h.kp.then k (fun i hi hn => ?_)
    rcases hn with hn | hn
    · have := (h.mem i (.inl hn)).1.1
      omega
    · rw [← h.kd i hi]
      exact fun e => hpc i e hn
  · refine h.ms.keep k (fun i hi hn => ?_) (fun i hi hn => ?_)
    · rcases hn with hn | hn
      · exact h.dj i hn (.inl hi)
      · exact hpc i (h.mem i (.inr (.inl hi))).2 hn
    · rcases hn with hn | hn
      · exact h.dj i hn (.inr hi)
      · exact hpc i (h.mem i (.inr (.inr hi))).2 hn
  · intro i hi
    rcases hi with hi | hi
    · have h1 := hG.2.1 i hi
      rcases hF i hi with h2 | h2
      · exact ⟨⟨(h.mem i (.inl h2)).1.1, h1⟩, (h.mem i (.inl h2)).2⟩
      · exact ⟨⟨by have := h.kp.size; omega, h1⟩, no_big h.wo h2⟩
    · exact ⟨⟨(h.mem i (.inr hi)).1.1, Nat.lt_of_lt_of_le (h.mem i (.inr hi)).1.2 k.size⟩, (h.mem i (.inr hi)).2⟩
  · intro i hi ho
    rcases hF i hi with h2 | h2
    · exact h.dj i h2 ho
    · have := (h.mem i (.inr ho)).1.2
      omega
  · have h1 := h.hb
    have h2 := h.pg.inv.fit
    have h3 := hE.inv.fit
    rw [Nat.add_mul]
    omega
  · have := h.c0
    show 0 ≤ S.cnt + (r : Int)
    omega
  · have := h.c1
    show S.cnt + (r : Int) ≤ 10001 * ((n + 1 : Nat) : Int)
    omega
end Go.Proofs.YtknahaaefmlcpaaGreat
end
