/- Clone of messages; the contract of Messages of a get. Conditions: few messages. -/
import Derived.Test.YtpicplkbblmbeaaGn
import Derived.Laws.OwnMore
namespace Go.Proofs.Ytpicplkbblmbeaa
set_option maxRecDepth 100000
open Go.RowKit
set_option linter.unusedVariables false
set_option linter.unusedSimpArgs false
/-- An append of a row of elements that lies in a block of its own. -/
theorem list_appN {w : World} {ops : Array Oper} {rest : List Oper} {o : Oper} {a : Act} {Q : Exit → Act → World → Prop} (hgd : o.guard = none) (s x : Operand) (T E : TypeId)
    (ho : o.op = .call { callee := .builtin .append, args := #[s, x], argTypes := #[T, T] }) {i : TypeInfo} {z : Value} {size bytes : Nat} (ht : Try.prog.underlying T = some (.slice E)) (hi : Try.prog.info? E = some i) (hz : i.zero = some z) (hsize : i.size = size) (hby : i.bytes = bytes) (hzs : z.cells.size = size) (hsz : 0 < size)
    (v : Value) (n : Nat) (xs : List Value) (hs : a.eval s = v) (hown : w.ownsRow 0 E size v n xs) (g m cap : Nat) (news : List Value) (hx : a.eval x = .slice (some ⟨g, 0, none⟩) m cap) (hnews : ∀ j u, news[j]? = some u → w.cell? ⟨g, j, none⟩ = some u) (hl : news.length = m * size) (h1 : ∀ u ∈ news, u.oneCell' = true) (hn : (n + m) * bytes ≤ 140737488355328) (hm : n + m ≤ maxLen)
    (h : ∀ v' w', w'.ownsRow 0 E size v' (n + m) (xs ++ news) → w.grownBy w' v.ownBlock → (v'.ownBlock = v.ownBlock ∨ v'.ownBlock = some w.heap.size) → wpList Try.prog ops Q rest (a.put o.dst v') w') : wpList Try.prog ops Q (o :: rest) a w :=
  wpList_plain hgd fun _ hK => by
    have hnews' : ∀ j u, news[j]? = some u → w.cell? ((⟨g, 0, none⟩ : Addr).add j) = some u := by
      intro j u hu
      have e : (⟨g, 0, none⟩ : Addr).add j = ⟨g, 0 + j, none⟩ := by unfold Addr.add; split <;> simp_all
      rw [e, Nat.zero_add]
      exact hnews j u hu
    obtain ⟨v', w', hr, h2, h3, _, h5⟩ := run_append_own_at (P := Try.prog) w 0 T o.type E i z size bytes ht hi hz hsize hby hzs hsz v n xs hown ⟨g, 0, none⟩ m cap news hl hnews' h1 hm hn (Nat.zero_le _)
    unfold Oper.wp execOp
    simp only [ho, resolve, invoke, builtin, Sem.run_bind, Sem.run_pure, Result.andThen_ok, List.map_toArray, List.map_cons, List.map_nil, hs, hx, hr]
    exact hK _ _ (h v' w' h2 h3 h5)
theorem qSlM (w : World) (a : Option Addr) (n c n' c' : Nat) : (binOp .eql 91 (.slice a n c) (.slice none n' c')).run Try.prog w = .ok (.bool a.isNone) w := Lib.run_eql_slice_nil w _ _ a n c n' c' Try.underlying91
theorem ones_ms : ∀ (es : List ((Int × List Int) × Value)) (w : World), (∀ e ∈ es, RdB w e.2 e.1.2) → ∀ u ∈ es.flatMap msL, u.oneCell' = true := by
  intro es w h u hu
  obtain ⟨e, he, hu⟩ := List.mem_flatMap.1 hu
  obtain ⟨a, n, c, h1⟩ := (h e he).isSl
  unfold msL at hu
  rw [h1] at hu
  simp at hu
  rcases hu with rfl | rfl <;> rfl
theorem msL_len (e : (Int × List Int) × Value) : (msL e).length = 2 := rfl
theorem msL_flat (es : List ((Int × List Int) × Value)) : (es.flatMap msL).length = es.length * 2 := by
  induction es with
  | nil => rfl
  | cons x r ih => rw [List.flatMap_cons, List.length_append, ih, msL_len, List.length_cons]; omega
theorem ms_at : ∀ (es : List ((Int × List Int) × Value)) (k : Nat) (e : (Int × List Int) × Value), es[k]? = some e → (es.flatMap msL)[k * 2]? = some (.int .i32 e.1.1) ∧ (es.flatMap msL)[k * 2 + 1]? = some e.2
  | [], k, e, h => by simp at h
  | x :: r, 0, e, h => by
    simp at h
    subst h
    exact ⟨rfl, rfl⟩
  | x :: r, k + 1, e, h => by
    obtain ⟨h1, h2⟩ := ms_at r k e (by simpa using h)
    rw [List.flatMap_cons, List.getElem?_append_right (by rw [msL_len]; omega), List.getElem?_append_right (by rw [msL_len]; omega), msL_len, show (k + 1) * 2 - 2 = k * 2 by omega, show (k + 1) * 2 + 1 - 2 = k * 2 + 1 by omega]
    exact ⟨h1, h2⟩
theorem ms_set : ∀ (es : List ((Int × List Int) × Value)) (k : Nat) (e : (Int × List Int) × Value) (v : Value), es[k]? = some e → (es.flatMap msL).set (k * 2 + 1) v = (es.set k (e.1, v)).flatMap msL
  | [], k, e, _, h => by simp at h
  | x :: r, 0, e, v, h => by
    simp at h
    subst h
    rfl
  | x :: r, k + 1, e, v, h => by
    have ih := ms_set r k e v (by simpa using h)
    rw [List.flatMap_cons, List.set_append_right _ _ (by rw [msL_len]; omega), msL_len, show (k + 1) * 2 + 1 - 2 = k * 2 + 1 by omega, ih, List.set_cons_succ, List.flatMap_cons]
set_option maxHeartbeats 1000000 in
theorem msClone_any {O R : Nat → Prop} {ov : Value} {out : List (Int × List Int)} (w : World) (h : MsIn w O R ov out) (hl : out.length ≤ 100000) :
    Calls Try.prog 86 #[ov] w fun e w' => ∃ v, e = .returned v ∧ MsIn w' O (fun i => w.heap.size ≤ i) v out ∧ Below w.heap.size w w' := by
  have q := qSlM
  obtain ⟨i0, hi, hz0, hz1, hz2⟩ := info_parts msinfo
  obtain ⟨⟨es, he, ho, hes⟩, hr⟩ := h
  have hel : es.length ≤ 100000 := by rw [← he, List.length_map] at hl; exact hl
  have HE := Lib.hid he
  have HES := Lib.hid hes
  have HO := Lib.hid ho
  rcases ho.2 with ⟨rfl, h0⟩ | ⟨g, cap, cur, rfl, _⟩
  · clear he hes ho
    have h1 : es = [] := List.eq_nil_of_length_eq_zero h0
    go_enter Try.func86, Try.ntmps86
    go_wp2
    go_ret
    exact ⟨_, rfl, ⟨⟨es, HE.out, by rw [h1]; exact World.ownsRow_nil _ _ _ _, HES.out⟩, fun i hi => by cases hi⟩, Below.refl _ _⟩
  · clear he hes ho
    go_enter Try.func86, Try.ntmps86
    have b1 : Below w.heap.size w (w.alloc (.cells #[] 158)) := (Below.refl _ _).alloc (Nat.le_refl _) _
    have o1 : (w.alloc (.cells #[] 158)).ownsRow 0 158 2 (.slice (some ⟨w.heap.size, 0, none⟩) 0 0) 0 [] := ⟨by simp, .inr ⟨w.heap.size, 0, #[], rfl, Nat.zero_le _, (MapKept.heap_alloc w _).1, Nat.le_refl _, by unfold maxLen; omega, by simp, by simp⟩⟩
    have o2 := ownsRow_keep HO.out (Below.keeps (M := fun _ => False) b1) (fun _ _ => id)
    have HN := Lib.hid (show ∀ j u, (es.flatMap msL)[j]? = some u → (w.alloc (.cells #[] 158)).cell? ⟨g, j, none⟩ = some u from by
      intro j u hu
      have hj : j < es.length * 2 := by have := (List.getElem?_eq_some_iff.1 hu).1; rwa [msL_flat] at this
      rw [World.ownsRow.cellAt o2 j hj]
      exact hu)
    have O1 := Lib.hid o1
    have O2 := Lib.hid o2
    have B1 := Lib.hid b1
    clear o1 o2 b1
    go_wp2_with (refine list_appN rfl (.tmp 5) (.tmp 6) 91 158 rfl Try.underlying91 hi hz0 hz1 hz2 rfl (by decide) (.slice (some ⟨w.heap.size, 0, none⟩) 0 0) 0 [] rfl O1.out g es.length cap (es.flatMap msL) rfl HN.out (msL_flat es) (ones_ms es w fun e he => (HES.out e he).1) (by omega) (by unfold maxLen; omega) ?_)
    intro v' w' o3 g3 e3
    have K3 := grown_keep g3
    have kk : Keep (fun i => (Value.slice (some ⟨w.heap.size, 0, none⟩) 0 0).ownBlock = some i) w w' := (Below.keeps B1.out).trans K3
    have bb : Below w.heap.size w w' := (Below.refl w.heap.size w).trans (kk.below (B := w.heap.size) (Nat.le_refl _) (fun i hi h => by have h2 : w.heap.size = i := Option.some.inj h; omega))
    go_wp2
    go_ret
    refine ⟨v', rfl, ⟨⟨es, HE.out, by simpa using o3, fun e he => ⟨(HES.out e he).1.keepP (Below.keeps (M := fun _ => False) bb) (fun _ _ => id), (HES.out e he).2⟩⟩, fun i hi => ?_⟩, bb⟩
    show w.heap.size ≤ i
    rcases e3 with e | e
    · rw [e] at hi
      cases hi
      exact Nat.le_refl _
    · rw [e] at hi
      cases hi
      simp
theorem gMessages_nil (w : World) : Calls Try.prog 46 #[.pointer none] w fun e w' => e = .returned (.slice none 0 0) ∧ w = w' := by
  go_enter Try.func46, Try.ntmps46
  go_wp2
  go_ret
  exact ⟨rfl, rfl⟩
set_option maxHeartbeats 2000000 in
theorem gMessages_any {O R : Nat → Prop} {q : Nat} {m : GetM} {ov : Value} (w : World) (h : GetI w O R q m ov) (hl : m.out.length ≤ 100000) (hb : ∀ x ∈ m.out, x.2.length ≤ 70368744177664) :
    Calls Try.prog 46 #[.pointer (some ⟨q, 0, none⟩)] w fun e w' => ∃ v, e = .returned v ∧ MsIn w' (fun i => w.heap.size ≤ i) (fun i => w.heap.size ≤ i) v m.out ∧ Below w.heap.size w w' := by
  have MS := Lib.hid h.ms
  have LO := Lib.hid h.lo
  have HB := Lib.hid hb
  obtain ⟨c, t, hm⟩ := h.at_.mch
  obtain ⟨_, _, _, _, _, _, c13, _, _⟩ := get_cells hm
  have hlt : q < w.heap.size := Blk.lt hm
  clear h hm hb
  go_enter Try.func46, Try.ntmps46
  go_wp2_with fail
  refine (msClone_any w MS.out hl).mono ?_
  rintro e w1 ⟨v, rfl, hM, b1⟩
  have z1 := b1.size
  obtain ⟨⟨es, he, ho, hes⟩, hr⟩ := hM
  obtain ⟨va, vl, vc, rfl⟩ := own_isSl ho
  have hvl : vl = es.length := by
    rcases ho.2 with ⟨h1, h2⟩ | ⟨g, cap, cur, h1, _⟩
    · rw [h2]; injection h1
    · injection h1
  subst hvl
  have hel : es.length ≤ 100000 := by rw [← he, List.length_map] at hl; exact hl
  have B1 := Lib.hid b1
  have HR := Lib.hid hr
  have INV := Lib.hid (show ∃ es' : List ((Int × List Int) × Value), es'.length = es.length ∧ es'.map (·.1) = m.out ∧ w1.ownsRow 0 158 2 (.slice va es.length vc) es.length (es'.flatMap msL) ∧ ∀ (j : Nat) (e : (Int × List Int) × Value), es'[j]? = some e → RdB w1 e.2 e.1.2 ∧ ∀ i, e.2.ownBlock = some i → (Value.slice va es.length vc).ownBlock ≠ some i ∧ (j < 0 → w.heap.size ≤ i) from
    ⟨es, rfl, he, ho, fun j e hj => ⟨(hes e (List.mem_of_getElem? hj)).1, fun i hi => ⟨fun h2 => by
      have h3 := LO.out i (.inl ((hes e (List.mem_of_getElem? hj)).2 i hi))
      have h4 : w.heap.size ≤ i := hr i h2
      omega, fun h0 => absurd h0 (by omega)⟩⟩⟩)
  clear he ho hes hr b1 c13
  go_wp2_with fail
  go_loopw [14] (fun i wr => ∃ k : Nat, k ≤ es.length ∧ i = .int .i64 k ∧ (∃ es' : List ((Int × List Int) × Value), es'.length = es.length ∧ es'.map (·.1) = m.out ∧ wr.ownsRow 0 158 2 (.slice va es.length vc) es.length (es'.flatMap msL) ∧ ∀ (j : Nat) (e : (Int × List Int) × Value), es'[j]? = some e → RdB wr e.2 e.1.2 ∧ ∀ i, e.2.ownBlock = some i → (Value.slice va es.length vc).ownBlock ≠ some i ∧ (j < k → w.heap.size ≤ i)) ∧ Below w.heap.size w wr) (fun i _ => es.length - (intOf i).toNat)
  case atStart => exact ⟨0, by omega, rfl, INV.out, B1.out⟩
  case round =>
    obtain ⟨k, hk, rfl, ⟨es', hlen, hmap, hown, hall⟩, hB⟩ := hrel
    by_cases hlt : k < es.length
    · obtain ⟨e, hek⟩ : ∃ e, es'[k]? = some e := ⟨_, List.getElem?_eq_getElem (by omega)⟩
      obtain ⟨hrd, hno⟩ := hall k e hek
      obtain ⟨g, cap, hg⟩ : ∃ g cap, Value.slice va es.length vc = .slice (some ⟨g, 0, none⟩) es.length cap := by
        rcases hown.2 with ⟨_, h2⟩ | ⟨g, cap, cur, h1, _⟩
        · omega
        · exact ⟨g, cap, h1⟩
      have hva : va = some ⟨g, 0, none⟩ := by injection hg
      have hvc : vc = cap := by injection hg
      subst hva hvc
      have hgl : w.heap.size ≤ g := HR.out g rfl
      obtain ⟨m1, m2⟩ := ms_at es' k e hek
      have hem : e.1 ∈ m.out := by rw [← hmap]; exact List.mem_map.2 ⟨e, List.mem_of_getElem? hek, rfl⟩
      have hbl := HB.out e.1 hem
      obtain ⟨sa, sl, sc, hs⟩ := hrd.isSl
      obtain ⟨e1, e2⟩ := e
      dsimp only at hs hrd hno m1 m2 hem hbl
      subst hs
      have d1 : wr.cell? ⟨g, k * 2 + 1, none⟩ = some (.slice sa sl sc) := by rw [World.ownsRow.cellAt hown _ (by omega), m2]
      have hgw : g < wr.heap.size := World.block_lt_of_cell? _ _ d1
      have HRD := Lib.hid hrd
      have HOWN := Lib.hid hown
      have HALL := Lib.hid hall
      have HEK := Lib.hid hek
      have HMAP := Lib.hid hmap
      have HBw := Lib.hid hB
      have zB := hB.size
      clear hrd hown hall hek hmap hB hno m1 m2 hem hg
      go_wp2_with fail
      refine (clone_any _ _ _ HRD.out hbl).mono ?_
      rintro e w2 ⟨s2, rfl, o2, b2⟩
      obtain ⟨ta, tl, tc, hs2⟩ := own_isSl o2
      subst hs2
      have z2 := b2.size
      have OW := Lib.hid (ownsRow_keep HOWN.out (Below.keeps (M := fun _ => False) b2) (fun _ _ => id))
      have d2 : w2.cell? ⟨g, k * 2 + 1, none⟩ = some (.slice sa sl sc) := (b2.cell (p := ⟨g, k * 2 + 1, none⟩) hgw).trans d1
      have f2 := World.ownsRow.frozenAt OW.out (k * 2 + 1)
      have ST := Lib.hid (World.ownsRow.stored OW.out (k * 2 + 1) (.slice ta tl tc))
      have O2 := Lib.hid o2
      have B2 := Lib.hid b2
      clear o2 b2 d1
      go_wp2
      have kk : Keep (fun i => i = g) w2 (w2.setCell ⟨g, k * 2 + 1, none⟩ (.slice ta tl tc)) := Keep.setCell (M := fun i => i = g) (Keep.refl _ _) (p := ⟨g, k * 2 + 1, none⟩) (.inl rfl) _
      have K := (Below.keeps (M := fun i => i = g) B2.out).trans kk
      refine ⟨⟨k + 1, by omega, by go_num, ⟨es'.set k (e1, .slice ta tl tc), by simp [hlen], ?_, ?_, ?_⟩, ?_⟩, by simp [intOf]; omega⟩
      · rw [List.map_set]
        have h1 : (es'.map (·.1))[k]? = some e1 := by rw [List.getElem?_map, HEK.out]; rfl
        rw [← HMAP.out]
        apply List.ext_getElem?
        intro j
        by_cases hj : k = j
        · subst hj
          rw [List.getElem?_set_self (by simp; omega)]
          exact h1.symm
        · rw [List.getElem?_set_ne hj]
      · rw [← ms_set es' k (e1, .slice sa sl sc) (.slice ta tl tc) HEK.out]
        exact ST.out.1
      · intro j e hj
        by_cases hjk : j = k
        · subst hjk
          rw [List.getElem?_set_self (by omega)] at hj
          obtain rfl := Option.some.inj hj
          have hr2 : ∀ i, (Value.slice ta tl tc).ownBlock = some i → wr.heap.size ≤ i := fun i hi => (World.ownsRow.lt O2.out i hi).1
          refine ⟨O2.out.rd.keepP kk (fun i hi => ?_), fun i hi => ⟨fun h2 => ?_, fun _ => ?_⟩⟩
          · have := hr2 i hi
            omega
          · have := hr2 i hi
            have h3 : g = i := Option.some.inj h2
            omega
          · have := hr2 i hi
            omega
        · rw [List.getElem?_set_ne (by omega)] at hj
          obtain ⟨a1, a2⟩ := HALL.out j e hj
          exact ⟨a1.keepP K (fun i hi h => (a2 i hi).1 (by rw [h]; rfl)), fun i hi => ⟨(a2 i hi).1, fun h => (a2 i hi).2 (by omega)⟩⟩
      · exact HBw.out.trans (K.below (B := w.heap.size) zB (fun i hi h => by omega))
    · obtain rfl : k = es.length := by omega
      go_wp2
      go_ret
      refine ⟨_, rfl, ⟨⟨es', hmap, by rw [hlen]; exact hown, fun e he => ?_⟩, HR.out⟩, hB⟩
      obtain ⟨j, hj⟩ := List.getElem?_of_mem he
      have hjl : j < es.length := by have := (List.getElem?_eq_some_iff.1 hj).1; omega
      exact ⟨(hall j e hj).1, fun i hi => ((hall j e hj).2 i hi).2 hjl⟩
end Go.Proofs.Ytpicplkbblmbeaa
