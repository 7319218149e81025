/- Rows of events in memory of their own; the contract of sched.World.Trace. Conditions: few events. -/
import Derived.Test.YtknahaaefmlcpaaSo
import Derived.Test.YtknahaaefmlcpaaSj
namespace Go.Proofs.Ytknahaaefmlcpaa
set_option maxRecDepth 100000
open Go.RowKit
set_option linter.unusedVariables false
set_option linter.unusedSimpArgs false
/-- A slice value owns a row of events, and their bytes; P: where it all lies. -/
def EvRow (P : Nat → Prop) (w : World) (v : Value) (l : List Ev) : Prop :=
  ∃ es : List (Ev × Value × Value), es.map (·.1) = l ∧ w.ownsRow 0 51 12 v es.length (es.flatMap evL) ∧ (∀ i, v.ownBlock = some i → P i) ∧
    ∀ e ∈ es, OwB 5 0 w e.2.1 e.1.c.b ∧ OwB 5 0 w e.2.2 e.1.x.b ∧ ∀ i, e.2.1.ownBlock = some i ∨ e.2.2.ownBlock = some i → P i
theorem EvRow.nil (P : Nat → Prop) (w : World) : EvRow P w (.slice none 0 0) [] := ⟨[], rfl, World.ownsRow_nil _ _ _ _, (fun i h => by cases h), (fun e h => by cases h)⟩
theorem OwB.keepQ {w w' : World} {B : Nat} {v : Value} {l : List Int} {K : Nat → Prop} (h : OwB 5 B w v l) (k : Keep K w w') (hd : ∀ i, v.ownBlock = some i → ¬ K i) : OwB 5 B w' v l := ownsRow_keep h k hd
theorem EvRow.keep {P K : Nat → Prop} {w w' : World} {v : Value} {l : List Ev} (h : EvRow P w v l) (k : Keep K w w') (hd : ∀ i, P i → ¬ K i) : EvRow P w' v l := by
  obtain ⟨es, e, ho, hp, he⟩ := h
  exact ⟨es, e, ownsRow_keep ho k (fun i hi => hd i (hp i hi)), hp, fun x hx => ⟨OwB.keepQ (he x hx).1 k (fun i hi => hd i ((he x hx).2.2 i (.inl hi))), OwB.keepQ (he x hx).2.1 k (fun i hi => hd i ((he x hx).2.2 i (.inr hi))), (he x hx).2.2⟩⟩
theorem EvRow.below {P : Nat → Prop} {w w' : World} {v : Value} {l : List Ev} (h : EvRow P w v l) (b : Below w.heap.size w w') : EvRow P w' v l := by
  obtain ⟨es, e, ho, hp, he⟩ := h
  exact ⟨es, e, ownsRow_keep ho (Below.keeps (M := fun _ => False) b) (fun _ _ => id), hp, fun x hx => ⟨OwB.keepQ (he x hx).1 (Below.keeps (M := fun _ => False) b) (fun _ _ => id), OwB.keepQ (he x hx).2.1 (Below.keeps (M := fun _ => False) b) (fun _ _ => id), (he x hx).2.2⟩⟩
theorem EvRow.mono {P P' : Nat → Prop} {w : World} {v : Value} {l : List Ev} (h : EvRow P w v l) (hP : ∀ i, P i → P' i) : EvRow P' w v l := by
  obtain ⟨es, e, ho, hp, he⟩ := h
  exact ⟨es, e, ho, fun i hi => hP i (hp i hi), fun x hx => ⟨(he x hx).1, (he x hx).2.1, fun i hi => hP i ((he x hx).2.2 i hi)⟩⟩
theorem EvRow.sl {P : Nat → Prop} {w : World} {v : Value} {l : List Ev} (h : EvRow P w v l) : ∃ a c, v = .slice a l.length c := by
  obtain ⟨es, rfl, ⟨_, ho⟩, _⟩ := h
  rcases ho with ⟨rfl, h0⟩ | ⟨g, cap, cur, rfl, _⟩
  · exact ⟨none, 0, by rw [List.length_map, h0]⟩
  · exact ⟨_, _, by rw [List.length_map]⟩
/-- What an append of one event leaves. -/
theorem EvRow.push {P : Nat → Prop} {w w1 : World} {v v' sv sx : Value} {l : List Ev} {ev : Ev} {es : List (Ev × Value × Value)} (he : es.map (·.1) = l) (ho0 : w.ownsRow 0 51 12 v es.length (es.flatMap evL)) (hv0 : ∀ i, v.ownBlock = some i → P i) (hall : ∀ e ∈ es, OwB 5 0 w e.2.1 e.1.c.b ∧ OwB 5 0 w e.2.2 e.1.x.b ∧ ∀ i, e.2.1.ownBlock = some i ∨ e.2.2.ownBlock = some i → P i)
    (h1 : OwB 5 0 w sv ev.c.b) (h2 : OwB 5 0 w sx ev.x.b) (hp : ∀ i, sv.ownBlock = some i ∨ sx.ownBlock = some i → P i) (k : Keep (fun i => v.ownBlock = some i) w w1) (ho : w1.ownsRow 0 51 12 v' (es.length + 1) (es.flatMap evL ++ evL (ev, sv, sx))) (hv : v'.ownBlock = v.ownBlock ∨ ∃ i, v'.ownBlock = some i ∧ P i) : EvRow P w1 v' (l ++ [ev]) := by
  have ne : ∀ {s : Value} {b : List Int}, OwB 5 0 w s b → ∀ i, s.ownBlock = some i → ¬ v.ownBlock = some i := by
    intro s b hs i hi hvi
    rcases hs.2 with ⟨rfl, _⟩ | ⟨g1, c1, u1, rfl, _, e1, _⟩
    · cases hi
    rcases ho0.2 with ⟨rfl, _⟩ | ⟨g2, c2, u2, rfl, _, e2, _⟩
    · cases hvi
    have a1 : g1 = i := Option.some.inj hi
    have a2 : g2 = i := Option.some.inj hvi
    subst a1 a2
    rw [e1] at e2
    simp only [Option.some.injEq, Obj.cells.injEq] at e2
    exact absurd e2.2.1 (by decide)
  refine ⟨es ++ [(ev, sv, sx)], by simp [he], by simpa using ho, ?_, ?_⟩
  · intro i hi
    rcases hv with e | ⟨j, e, hj⟩
    · exact hv0 i (e ▸ hi)
    · rw [e] at hi
      exact Option.some.inj hi ▸ hj
  · intro e hm
    rcases List.mem_append.1 hm with hm | hm
    · obtain ⟨a, b, c⟩ := hall e hm
      exact ⟨OwB.keepQ a k (ne a), OwB.keepQ b k (ne b), c⟩
    · obtain rfl := List.mem_singleton.1 hm
      exact ⟨OwB.keepQ h1 k (ne h1), OwB.keepQ h2 k (ne h2), hp⟩
theorem evL_len (e : Ev × Value × Value) : (evL e).length = 12 := rfl
theorem flat_at : ∀ (es : List (Ev × Value × Value)) (k : Nat) (e : Ev × Value × Value), es[k]? = some e → ∀ (j : Nat) (u : Value), (evL e)[j]? = some u → (es.flatMap evL)[k * 12 + j]? = some u
  | [], k, e, h, _, _, _ => by simp at h
  | x :: r, 0, e, h, j, u, hj => by
    simp at h
    subst h
    have hj' : j < 12 := by have := (List.getElem?_eq_some_iff.1 hj).1; rwa [evL_len] at this
    rw [List.flatMap_cons, List.getElem?_append_left (by rw [evL_len]; omega)]
    simpa using hj
  | x :: r, k + 1, e, h, j, u, hj => by
    rw [List.flatMap_cons, List.getElem?_append_right (by rw [evL_len]; omega), evL_len, show (k + 1) * 12 + j - 12 = k * 12 + j by omega]
    exact flat_at r k e (by simpa using h) j u hj
/-- The cells of an event of a row. -/
theorem row_cells {w : World} {g cap n : Nat} {es : List (Ev × Value × Value)} (h : w.ownsRow 0 51 12 (.slice (some ⟨g, 0, none⟩) n cap) es.length (es.flatMap evL)) {k : Nat} {e : Ev × Value × Value} (he : es[k]? = some e) (j : Nat) (u : Value) (hj : (evL e)[j]? = some u) : w.cell? ⟨g, k * 12 + j, none⟩ = some u := by
  have := World.ownsRow.cells h rfl (k * 12 + j) u (flat_at es k e he j u hj)
  have e' : (⟨g, 0, none⟩ : Addr).add (k * 12 + j) = ⟨g, 0 + (k * 12 + j), none⟩ := by unfold Addr.add; split <;> simp_all
  rw [e', Nat.zero_add] at this
  exact this
set_option maxHeartbeats 1000000 in
theorem wTrace_row {C : Fam} {w : World} {κ : Nat → Kd} {W p c : Nat} {av tv : Value} {ab : Nat → Nat} {S : SW C.M.σ} (h : WoIn C w κ W p c av tv ab S) (hn : S.tr.length ≤ 100000) (hb : ∀ e ∈ S.tr, e.c.b.length ≤ 70368744177664 ∧ e.x.b.length ≤ 70368744177664) (g gc len : Nat) (htv : tv = .slice (some ⟨g, 0, none⟩) len gc) (hlen : len = S.tr.length) :
    Calls Try.prog 16 #[.pointer (some ⟨W, 0, none⟩)] w fun e w' => ∃ v, e = .returned v ∧ EvRow (fun i => w.heap.size ≤ i) w' v S.tr ∧ Below w.heap.size w w' := by
  obtain ⟨i0, hi, hz0, hz1, hz2⟩ := info_parts evinfo
  subst htv
  have H := Lib.hid h
  have HBn := Lib.hid hb
  have HLn := Lib.hid hlen
  obtain ⟨es0, he0, ho0, _, hev0⟩ := h.tr
  have hes0 : es0.length = len := by rw [hlen, ← he0]; simp
  have HE0 := Lib.hid he0
  have HO0 := Lib.hid ho0
  have HEV0 := Lib.hid hev0
  have HES0 := Lib.hid hes0
  obtain ⟨c0, c1, c2, c3⟩ := h.cells
  have hl0 : len ≤ 100000 := by omega
  clear h hb he0 ho0 hev0 hes0 hlen c0 c1 c2
  go_enter Try.func16, Try.ntmps16
  go_wp2_with fail
  go_loopw [3, 13] (fun ov i wr => ∃ k : Nat, k ≤ len ∧ i = .int .i64 k ∧ EvRow (fun i => w.heap.size ≤ i) wr ov (S.tr.take k) ∧ Below w.heap.size w wr) (fun _ i _ => len - (intOf i).toNat)
  case atStart => exact ⟨0, by omega, rfl, EvRow.nil _ _, Below.refl _ _⟩
  case round =>
    obtain ⟨k, hk, rfl, hR, hB⟩ := hrel
    by_cases hlt : k < len
    · obtain ⟨e, hek⟩ : ∃ e, es0[k]? = some e := ⟨_, List.getElem?_eq_getElem (by rw [HES0.out]; exact hlt)⟩
      have hem : e ∈ es0 := List.mem_of_getElem? hek
      have r1 := (HEV0.out.r1 e hem).below hB
      have r2 := (HEV0.out.r2 e hem).below hB
      obtain ⟨sa, sl, sc, hs⟩ := r1.isSl
      obtain ⟨ta, tl, tc, ht⟩ := r2.isSl
      have hkt : S.tr[k]? = some e.1 := by rw [← HE0.out, List.getElem?_map, hek]; rfl
      have hbl := HBn.out e.1 (List.mem_of_getElem? hkt)
      have hcc := fun j u hj => (hB.cell (p := ⟨g, k * 12 + j, none⟩) (World.block_lt_of_cell? w _ (row_cells HO0.out hek j u hj))).trans (row_cells HO0.out hek j u hj)
      obtain ⟨e1, s1, x1⟩ := e
      dsimp only at hs ht r1 r2 hkt hbl
      subst hs ht
      have R1 := Lib.hid r1
      have R2 := Lib.hid r2
      have HKT := Lib.hid hkt
      have HBL := Lib.hid hbl
      have d0 : wr.cell? ⟨g, k * 12, none⟩ = some (.int .i64 e1.pk) := hcc 0 _ rfl
      have d1 : wr.cell? ⟨g, k * 12 + 1, none⟩ = some (.int .i64 e1.pa) := hcc 1 _ rfl
      have d2 : wr.cell? ⟨g, k * 12 + 2, none⟩ = some (.int .i64 e1.pn) := hcc 2 _ rfl
      have d3 : wr.cell? ⟨g, k * 12 + 3, none⟩ = some (.int .i64 e1.c.k) := hcc 3 _ rfl
      have d4 : wr.cell? ⟨g, k * 12 + 4, none⟩ = some (.int .i64 e1.c.a) := hcc 4 _ rfl
      have d5 : wr.cell? ⟨g, k * 12 + 5, none⟩ = some (.int .i64 e1.c.n) := hcc 5 _ rfl
      have d6 : wr.cell? ⟨g, k * 12 + 6, none⟩ = some (.int .u64 e1.c.v) := hcc 6 _ rfl
      have d7 : wr.cell? ⟨g, k * 12 + 7, none⟩ = some (.int .u64 e1.c.x) := hcc 7 _ rfl
      have d8 : wr.cell? ⟨g, k * 12 + 8, none⟩ = some (.slice sa sl sc) := hcc 8 _ rfl
      have d9 : wr.cell? ⟨g, k * 12 + 9, none⟩ = some (.int .u64 e1.x.v) := hcc 9 _ rfl
      have d10 : wr.cell? ⟨g, k * 12 + 10, none⟩ = some (.bool e1.x.d) := hcc 10 _ rfl
      have d11 : wr.cell? ⟨g, k * 12 + 11, none⟩ = some (.slice ta tl tc) := hcc 11 _ rfl
      have hgl : g < wr.heap.size := World.block_lt_of_cell? _ _ d0
      obtain ⟨es, he, ho, hp, hall⟩ := hR
      obtain ⟨oa, ol, oc, rfl⟩ := own_isSl ho
      have hel : es.length = k := by
        have h1 := congrArg List.length he
        have h2 : k ≤ S.tr.length := by rw [← HLn.out]; exact hk
        simp at h1
        omega
      have HE := Lib.hid he
      have HO := Lib.hid ho
      have HP := Lib.hid hp
      have HALL := Lib.hid hall
      have HEL := Lib.hid hel
      have HB := Lib.hid hB
      have zB := hB.size
      clear hcc hek hem r1 r2 hkt hbl he ho hp hall hel hB
      go_wp2_with fail
      refine (wCopied_any e1.pk e1.pa e1.pn e1.c sa sl sc e1.x ta tl tc _ (R1.out.below ((Below.refl _ _).alloc (Nat.le_refl _) _)) (R2.out.below ((Below.refl _ _).alloc (Nat.le_refl _) _)) HBL.out.1 HBL.out.2).mono ?_
      rintro e w2 ⟨m0, ml, mc, n0, nl, nc, rfl, o1, o2, b2⟩
      unfold evV
      have b12 : Below wr.heap.size wr w2 := ((Below.refl wr.heap.size wr).alloc (Nat.le_refl _) _).trans (b2.mono (by rw [World.size_alloc]; omega))
      have b3 : Below w2.heap.size w2 (w2.alloc (Obj.cells #[.int .i64 e1.pk, .int .i64 e1.pa, .int .i64 e1.pn, .int .i64 e1.c.k, .int .i64 e1.c.a, .int .i64 e1.c.n, .int .u64 e1.c.v, .int .u64 e1.c.x, .slice m0 ml mc, .int .u64 e1.x.v, .bool e1.x.d, .slice n0 nl nc] 51)) := (Below.refl _ _).alloc (Nat.le_refl _) _
      have OW := Lib.hid (ownsRow_keep HO.out (Below.keeps (M := fun _ => False) (b12.trans (b3.mono b12.size))) (fun _ _ => id))
      have NB := Lib.hid (show Blk (w2.alloc (Obj.cells #[.int .i64 e1.pk, .int .i64 e1.pa, .int .i64 e1.pn, .int .i64 e1.c.k, .int .i64 e1.c.a, .int .i64 e1.c.n, .int .u64 e1.c.v, .int .u64 e1.c.x, .slice m0 ml mc, .int .u64 e1.x.v, .bool e1.x.d, .slice n0 nl nc] 51)) w2.heap.size (evC e1.pk e1.pa e1.pn e1.c (.slice m0 ml mc) e1.x (.slice n0 nl nc)) from Blk.made w2 _ _)
      have O1 := Lib.hid (OwB.keepQ (OwB.mono o1 (B' := wr.heap.size) (by rw [World.size_alloc]; omega)) (Below.keeps (M := fun _ => False) b3) (fun _ _ => id))
      have O2 := Lib.hid (OwB.keepQ (OwB.mono o2 (B' := wr.heap.size) (by rw [World.size_alloc]; omega)) (Below.keeps (M := fun _ => False) b3) (fun _ _ => id))
      have B12 := Lib.hid b12
      have B3 := Lib.hid b3
      have z2 := b12.size
      have hkl : es.length ≤ 100000 := by rw [HEL.out]; omega
      clear o1 o2 b2 b12 b3 d0 d1 d2 d3 d4 d5 d6 d7 d8 d9 d10 d11
      go_wp2_with (refine list_app1 rfl (.tmp 17) (.tmp 20) 40 51 rfl Try.underlying40 hi hz0 hz1 hz2 rfl (by decide) (.slice oa ol oc) es.length (es.flatMap evL) rfl OW.out w2.heap.size (evC e1.pk e1.pa e1.pn e1.c (.slice m0 ml mc) e1.x (.slice n0 nl nc)) rfl NB.out rfl (ones_ev _ _ _ _ _ _ _ _ _ _ _) (by omega) (by unfold maxLen; omega) ?_)
      intro v3 w3 o3 g3 e3
      have K3 := grown_keep g3
      have hall' : ∀ e ∈ es, OwB 5 0 (w2.alloc (Obj.cells #[.int .i64 e1.pk, .int .i64 e1.pa, .int .i64 e1.pn, .int .i64 e1.c.k, .int .i64 e1.c.a, .int .i64 e1.c.n, .int .u64 e1.c.v, .int .u64 e1.c.x, .slice m0 ml mc, .int .u64 e1.x.v, .bool e1.x.d, .slice n0 nl nc] 51)) e.2.1 e.1.c.b ∧ OwB 5 0 (w2.alloc (Obj.cells #[.int .i64 e1.pk, .int .i64 e1.pa, .int .i64 e1.pn, .int .i64 e1.c.k, .int .i64 e1.c.a, .int .i64 e1.c.n, .int .u64 e1.c.v, .int .u64 e1.c.x, .slice m0 ml mc, .int .u64 e1.x.v, .bool e1.x.d, .slice n0 nl nc] 51)) e.2.2 e.1.x.b ∧ ∀ i, e.2.1.ownBlock = some i ∨ e.2.2.ownBlock = some i → w.heap.size ≤ i := by
        intro x hx
        obtain ⟨a1, a2, a3⟩ := HALL.out x hx
        exact ⟨OwB.keepQ a1 (Below.keeps (M := fun _ => False) (B12.out.trans (B3.out.mono B12.out.size))) (fun _ _ => id), OwB.keepQ a2 (Below.keeps (M := fun _ => False) (B12.out.trans (B3.out.mono B12.out.size))) (fun _ _ => id), a3⟩
      have hnew := EvRow.push (P := fun i => w.heap.size ≤ i) HE.out OW.out HP.out hall' (sv := .slice m0 ml mc) (sx := .slice n0 nl nc) (OwB.mono O1.out (Nat.zero_le _)) (OwB.mono O2.out (Nat.zero_le _)) (fun i hi' => by
        rcases hi' with hi' | hi'
        · have := (World.ownsRow.lt O1.out i hi').1
          show w.heap.size ≤ i
          omega
        · have := (World.ownsRow.lt O2.out i hi').1
          show w.heap.size ≤ i
          omega) K3 o3 (e3.imp id fun h => ⟨_, h, by show w.heap.size ≤ _; first | omega | (rw [World.size_alloc]; omega)⟩)
      have htk : S.tr.take (k + 1) = S.tr.take k ++ [e1] := by
        obtain ⟨hh, hg⟩ := List.getElem?_eq_some_iff.1 HKT.out
        rw [List.take_succ_eq_append_getElem hh, hg]
      rw [← htk] at hnew
      have HN := Lib.hid hnew
      have kk : Keep (fun i => (Value.slice oa ol oc).ownBlock = some i) wr w3 := (Below.keeps (B12.out.trans (B3.out.mono B12.out.size))).trans K3
      have BF := Lib.hid (HB.out.trans (kk.below (B := w.heap.size) zB (fun i hi h => by have h1 : w.heap.size ≤ i := HP.out i h; omega)))
      clear hnew hall' K3 o3 g3 e3 htk kk
      go_wp2
      exact ⟨⟨k + 1, by omega, by go_num, HN.out, BF.out⟩, by simp [intOf]; omega⟩
    · obtain rfl : k = len := by omega
      go_wp2
      go_ret
      have e : S.tr.take k = S.tr := List.take_of_length_le (by rw [← HLn.out]; exact Nat.le_refl _)
      rw [e] at hR
      exact ⟨_, rfl, hR, hB⟩
set_option maxHeartbeats 400000 in
theorem wTrace_none {C : Fam} {w : World} {κ : Nat → Kd} {W p c : Nat} {av tv : Value} {ab : Nat → Nat} {S : SW C.M.σ} (h : WoIn C w κ W p c av tv ab S) (hn : S.tr.length = 0) :
    Calls Try.prog 16 #[.pointer (some ⟨W, 0, none⟩)] w fun e w' => ∃ v, e = .returned v ∧ EvRow (fun i => w.heap.size ≤ i) w' v S.tr ∧ Below w.heap.size w w' := by
  obtain ⟨a, cap, rfl⟩ := h.tvSl
  obtain ⟨c0, c1, c2, c3⟩ := h.cells
  rw [hn] at c3
  clear h c0 c1 c2
  have e : S.tr = [] := List.eq_nil_of_length_eq_zero hn
  rw [e]
  clear hn e
  go_enter Try.func16, Try.ntmps16
  go_wp2_with fail
  refine wp_loop_rounds 1 ?_
  rw [rounds_succ]
  go_wp2
  go_ret
  exact ⟨_, rfl, EvRow.nil _ _, Below.refl _ _⟩
theorem wTrace_any {C : Fam} {w : World} {κ : Nat → Kd} {W p c : Nat} {av tv : Value} {ab : Nat → Nat} {S : SW C.M.σ} (h : WoIn C w κ W p c av tv ab S) (hn : S.tr.length ≤ 100000) (hb : ∀ e ∈ S.tr, e.c.b.length ≤ 70368744177664 ∧ e.x.b.length ≤ 70368744177664) :
    Calls Try.prog 16 #[.pointer (some ⟨W, 0, none⟩)] w fun e w' => ∃ v, e = .returned v ∧ EvRow (fun i => w.heap.size ≤ i) w' v S.tr ∧ Below w.heap.size w w' := by
  by_cases h0 : S.tr.length = 0
  · exact wTrace_none h h0
  · obtain ⟨es, he, ho, _⟩ := h.tr
    rcases ho.2 with ⟨_, e⟩ | ⟨g, cap, cur, e, _⟩
    · have := congrArg List.length he
      simp at this
      omega
    · have hl := congrArg List.length he
      simp at hl
      exact wTrace_row h hn hb g cap es.length e hl
end Go.Proofs.Ytknahaaefmlcpaa
