/- Puts that are picked for a while; one more, to its end; what came out is what was put whole. Conditions: as each says. -/
import Derived.Test.YtknahaaefmlcpaaGreatFu
import Derived.Test.YtknahaaefmlcpaaGreatGv
namespace Go.Proofs.YtknahaaefmlcpaaGreat
set_option maxRecDepth 100000
open Go.RowKit
set_option linter.unusedVariables false
set_option linter.unusedSimpArgs false
/-- A put more. -/
theorem Inv.more {b s : Nat} {bs : List Int} {P : List PutM} {A : List (Slot × Nat)} {k H : Nat} {F : List (List Int)} (h : Inv b s bs P A k H F) (c : PutC) (hb : c.b = b) (hs : c.s = s) (hd : IsB c.d) (ht : c.typ ≤ 2147483647) : Inv b s bs (P ++ [PutC.init c]) A k H F := by
  refine ⟨h.so, h.b8, h.rg, h.kl, h.fk, h.h8, h.ok, h.fn, fun _ x hx => by have := h.ow id x hx; rw [List.length_append]; omega, h.cp, fun i m hi => ?_⟩
  by_cases hl : i < P.length
  · rw [List.getElem?_append_left hl] at hi
    exact h.pt i m hi
  · rw [List.getElem?_append_right (by omega)] at hi
    have e : i - P.length = 0 := by
      have := (List.getElem?_eq_some_iff.1 hi).1
      simp at this
      omega
    rw [e] at hi
    simp at hi
    subst hi
    exact PRel.init hb hs hd ht (fun x hx e => by have := h.ow id x hx; omega)
theorem camed {b s : Nat} {bs : List Int} {P : List PutM} {m9 : PutM} {A : List (Slot × Nat)} {k H : Nat} {F : List (List Int)} {L : List BytV} (h : Inv b s bs (P ++ [m9]) A k H F) (h9 : m9.e = 0) (ht : m9.c.typ = 99) (hd : m9.c.d = [108, 97, 115, 116]) (hP : ∀ (i : Nat) (m : PutM), P[i]? = some m → ∃ x : BytV, L[i]? = some x ∧ m.c.typ = (1 + (i : Int)) ∧ m.c.d = x.b) :
    Camed P m9 L (msgs A) (lastP A) := by
  refine ⟨rfl, h9, ?_, fun j t d hj => ?_⟩
  · rw [h.count0]
    unfold okN
    rw [List.filter_append, List.length_append]
    congr 1
    simp [h9]
  · obtain ⟨h1, i, m, hm, he, rfl, rfl, hp⟩ := h.order0 hj
    refine ⟨h1, ?_⟩
    by_cases hl : i < P.length
    · rw [List.getElem?_append_left hl] at hm
      obtain ⟨x, hx, e1, e2⟩ := hP i m hm
      exact .inr ⟨i, m, x, hm, hx, he, e1, e2.symm, hp⟩
    · rw [List.getElem?_append_right (by omega)] at hm
      have e : i - P.length = 0 := by
        have := (List.getElem?_eq_some_iff.1 hm).1
        simp at this
        omega
      rw [e] at hm
      simp at hm
      subst hm
      exact .inl ⟨ht, hd, hp⟩
/-- A world of puts over a ring that nobody drains. -/
structure GoW (s : Nat) (wm wr : World) (κm κ : Nat → Kd) (W p c : Nat) (av tv : Value) (ab : Nat → Nat) (Ks : List (Nat × PutC)) (n : Nat) (A : List (Slot × Nat)) (L : List (Nat × PutM)) (S : SW putMacQ.σ) : Prop where
  wo : WoIn putFam wr κ W p c av tv ab S
  acts : S.acts = actsQ (σ := Nat × PutM) L
  inv : Inv 0 s S.bs (L.map (·.2)) A 0 0 []
  key : keyQ L = Ks
  kd : ∀ i, i < wm.heap.size → κ i = κm i
  kp : Keep (fun i => κm i ≠ .no) wm wr
  c0 : 0 ≤ S.cnt
  c1 : S.cnt ≤ n
  tr : S.tr.length ≤ n
theorem GoW.len {s : Nat} {wm wr : World} {κm κ : Nat → Kd} {W p c : Nat} {av tv : Value} {ab : Nat → Nat} {Ks : List (Nat × PutC)} {n : Nat} {A : List (Slot × Nat)} {L : List (Nat × PutM)} {S : SW putMacQ.σ} (h : GoW s wm wr κm κ W p c av tv ab Ks n A L S) : L.length = Ks.length := by
  rw [← h.key]
  simp [keyQ]
theorem GoW.put {s : Nat} {wm wr w' : World} {κm κ : Nat → Kd} {W p c : Nat} {av tv : Value} {ab : Nat → Nat} {Ks : List (Nat × PutC)} {n : Nat} {A : List (Slot × Nat)} {L : List (Nat × PutM)} {S : SW putMacQ.σ} {e : Ending} (h : GoW s wm wr κm κ W p c av tv ab Ks n A L S) {j : Nat} (hj : j < Ks.length) (hp : PickPost putFam wr κ W p c av tv ab (putMacQ.pick S 0 j 0) e w') :
    ∃ κ' tv' A' L', GoW s wm w' κm κ' W p c av tv' ab Ks (n + 1) A' L' (putMacQ.pick S 0 j 0).1 := by
  obtain ⟨_, _, _, _, _, _, _, _, _, κ', tv', hw, hk, _, kp⟩ := hp
  obtain ⟨⟨q, m⟩, hLj⟩ : ∃ x, L[j]? = some x := ⟨_, List.getElem?_eq_getElem (by have := h.len; omega)⟩
  obtain ⟨t1, _, t3, t4⟩ := pick_facts putMacQ S 0 j 0
  have hz := h.kp.size
  have hiP : (L.map (·.2))[j]? = some m := by rw [List.getElem?_map, hLj]; rfl
  have hat : S.acts[j]? = some ⟨some (q, m), false⟩ := by rw [h.acts]; exact actsQ_at hLj
  have hfit := h.inv.fit
  have hso := h.inv.so
  have fin : ∀ {A' L'}, (putMacQ.pick S 0 j 0).1.acts = actsQ (σ := Nat × PutM) L' → Inv 0 s (putMacQ.pick S 0 j 0).1.bs (L'.map (·.2)) A' 0 0 [] → keyQ L' = keyQ L → GoW s wm w' κm κ' W p c av tv' ab Ks (n + 1) A' L' (putMacQ.pick S 0 j 0).1 := fun {A' L'} q1 q2 q3 =>
    ⟨hw, q1, q2, q3.trans h.key, fun i hi => (hk i (by omega)).trans (h.kd i hi), h.kp.then kp (fun i hi hn => by rw [h.kd i hi] at hn; exact hn), by have := h.c0; omega, by have := h.c1; omega, by have := h.tr; omega⟩
  by_cases hl : m.live = true
  · obtain ⟨herr, A', hI', htk, hln⟩ := put_go h.inv hiP hl (by omega)
    obtain ⟨p1, p2, p3⟩ := pick_at (M := putMacQ) hat (show putMacQ.live (q, m) = true from hl) (show (putMacQ.want (q, m)).err S.bs.length = 0 from herr)
    have e : (L.set j (q, m.step (m.want.ans S.bs))).map (·.2) = (L.map (·.2)).set j (m.step (m.want.ans S.bs)) := by rw [List.map_set]
    refine ⟨κ', tv', A', L.set j (q, m.step (m.want.ans S.bs)), fin ?_ ?_ ?_⟩
    · rw [p1, h.acts]
      exact actsQ_set L j _
    · rw [p2, e]
      exact hI'
    · exact map_set_same hLj (by simp [put_same])
  · have hl' : m.live = false := by simpa using hl
    obtain ⟨p1, p2, p3⟩ := pick_idle (M := putMacQ) hat (show putMacQ.live (q, m) = false from hl')
    exact ⟨κ', tv', A, L, fin (p1.trans h.acts) (by rw [p2]; exact h.inv) rfl⟩
theorem GoW.start {s : Nat} {wm : World} {κm : Nat → Kd} {W p c : Nat} {av : Value} {ab : Nat → Nat} {ss : List (Nat × PutM)} {Lb : List BytV} {w0 : World} (hs : s = 64 ∨ s = 128 ∨ s = 256 ∨ s = 512) (hW : WoIn putFam wm κm W p c av nilSl ab ⟨List.replicate (8 * 128) 0, 0, actsQ (σ := Nat × PutM) ss, 0, []⟩) (hq : ss.map (·.2) = putsI s Lb) (hL : ∀ x ∈ Lb, BytV.Ok w0 x) (h8 : Lb.length ≤ 8) :
    GoW s wm wm κm κm W p c av nilSl ab (keyQ ss) 0 [] ss ⟨List.replicate (8 * 128) 0, 0, actsQ (σ := Nat × PutM) ss, 0, []⟩ := by
  refine ⟨hW, rfl, ?_, rfl, fun _ _ => rfl, Below.keeps (Below.refl _ _), Int.le_refl 0, Int.le_refl 0, Nat.le_refl _⟩
  refine Inv.start (N := 8 * 128) (by omega) (by decide) (by omega) (fun i m' hi => ?_)
  rw [hq] at hi
  obtain ⟨x, hx, rfl⟩ := putsI_at hi
  have hil := (List.getElem?_eq_some_iff.1 hx).1
  exact ⟨_, rfl, rfl, rfl, (hL x (List.mem_of_getElem? hx)).b, by show ((1 + i : Nat) : Int) ≤ _; omega⟩
/-- Whose the puts are. -/
theorem keyQ_puts {s : Nat} {ss L : List (Nat × PutM)} {Lb : List BytV} (hq : ss.map (·.2) = putsI s Lb) (hk : keyQ L = keyQ ss) : ∀ (i : Nat) (m : PutM), (L.map (·.2))[i]? = some m → ∃ x : BytV, Lb[i]? = some x ∧ m.c.typ = (1 + (i : Int)) ∧ m.c.d = x.b := by
  intro i m hm
  rw [List.getElem?_map] at hm
  obtain ⟨y, hy, rfl⟩ := Option.map_eq_some_iff.1 hm
  have h1 : (keyQ ss)[i]? = some (y.1, y.2.c) := by rw [← hk]; unfold keyQ; rw [List.getElem?_map, hy]; rfl
  unfold keyQ at h1
  rw [List.getElem?_map] at h1
  obtain ⟨z, hz, e⟩ := Option.map_eq_some_iff.1 h1
  have e2 : z.2.c = y.2.c := by injection e
  have h2 : (putsI s Lb)[i]? = some z.2 := by rw [← hq, List.getElem?_map, hz]; rfl
  obtain ⟨x, hx, e3⟩ := putsI_at h2
  refine ⟨x, hx, ?_, ?_⟩
  · rw [← e2, e3]
    show ((1 + i : Nat) : Int) = _
    omega
  · rw [← e2, e3]
    rfl
theorem rows_of {ss L : List (Nat × PutM)} (hk : keyQ L = keyQ ss) : ∀ i, i < L.length → (ss.map ptP)[i]? = some (.pointer (some ⟨((L[i]?).map (·.1)).getD 0, 0, none⟩)) := by
  intro i hi
  have h1 : (keyQ ss)[i]? = some ((L[i]).1, (L[i]).2.c) := by rw [← hk]; unfold keyQ; rw [List.getElem?_map, List.getElem?_eq_getElem hi]; rfl
  unfold keyQ at h1
  rw [List.getElem?_map] at h1
  obtain ⟨z, hz, e⟩ := Option.map_eq_some_iff.1 h1
  have e2 : z.1 = (L[i]).1 := by injection e
  rw [List.getElem?_map, hz, List.getElem?_eq_getElem hi]
  show some (ptP z) = some (.pointer (some ⟨(L[i]).1, 0, none⟩))
  unfold ptP
  rw [e2]
/-- The blocks of the puts, whoever goes on beside them. -/
structure PutsIn (w : World) (P : List (Nat × PutM)) (p c : Nat) : Prop where
  at_ : ∀ (i : Nat) (x : Nat × PutM), P[i]? = some x → ∃ F, PutF w F x.1 x.2 ∧ ∀ j, F j → j ≠ p ∧ j ≠ c
theorem PutsIn.of {w : World} {κ : Nat → Kd} {W p c : Nat} {av tv : Value} {ab : Nat → Nat} {S : SW putMacQ.σ} (h : WoIn putFam w κ W p c av tv ab S) {L : List (Nat × PutM)} (ha : S.acts = actsQ (σ := Nat × PutM) L) : PutsIn w L p c := by
  refine ⟨fun i x hx => ?_⟩
  have h1 : S.acts[i]? = some ⟨some x, false⟩ := by rw [ha]; exact actsQ_at hx
  obtain ⟨_, mv, _, q', _, e, hv⟩ := h.act i _ h1
  subst e
  refine ⟨_, hv, fun j hj => ⟨?_, ?_⟩⟩
  · rintro rfl
    have := h.kp
    rw [hj] at this
    cases this
  · rintro rfl
    have := h.kc
    rw [hj] at this
    cases this
theorem PutsIn.keep {w w' : World} {P : List (Nat × PutM)} {p c : Nat} {K : Nat → Prop} (h : PutsIn w P p c) (k : Keep K w w') (hK : ∀ j, j < w.heap.size → K j → j = p ∨ j = c) : PutsIn w' P p c := by
  refine ⟨fun i x hx => ?_⟩
  obtain ⟨F, hF, hd⟩ := h.at_ i x hx
  refine ⟨F, hF.keep k (fun j hj hk => ?_), hd⟩
  rcases hK j (hF.2.1 j hj) hk with e | e
  · exact (hd j hj).1 e
  · exact (hd j hj).2 e
/-- The row of puts stays beside what turns. -/
theorem PutsTo.beside {w0 wr w' : World} {s : Nat} {ov : Value} {κ : Nat → Kd} {ss : List (Nat × PutM)} {L : List BytV} {K : Nat → Prop} (h : PutsTo w0 wr s ov κ ss L) (k : Keep K wr w') (hK : ∀ i, K i → κ i = .no ∧ w0.heap.size ≤ i) (ho : ∀ i, K i → ov.ownBlock ≠ some i) : PutsTo w0 w' s ov κ ss L := by
  obtain ⟨⟨qs, h1⟩, h2, h3, h4⟩ := h
  exact ⟨⟨qs, h1.keep k hK⟩, ownsRow_keep h2 k (fun i hi hk => ho i hk hi), h3, h4⟩
theorem PutsTo.next2 {w0 w2 w4 w5 : World} {s k : Nat} {ov ov' : Value} {κ : Nat → Kd} {ss : List (Nat × PutM)} {L : List BytV} {x : BytV} (h : PutsTo w0 w2 s ov κ ss (L.take k)) (hx : L[k]? = some x) (b4 : Below w2.heap.size w2 w4) {q : Nat} (hq : PutF w4 (fun i => w2.heap.size ≤ i ∧ i < w4.heap.size) q (PutC.init ⟨0, s, ((1 + k : Nat) : Int), x.b⟩))
    (K5 : Keep (fun i => ov.ownBlock = some i) w4 w5) (o5 : w5.ownsRow 0 38 1 ov' (ss.length + 1) (ss.map ptP ++ [.pointer (some ⟨q, 0, none⟩)])) (e5 : ov'.ownBlock = ov.ownBlock ∨ ∃ i, ov'.ownBlock = some i ∧ w4.heap.size ≤ i) :
    ∃ κ', (∀ i, i < w2.heap.size → κ' i = κ i) ∧ (∀ i, w4.heap.size ≤ i → κ' i = .no) ∧ PutsTo w0 w5 s ov' κ' (ss ++ [(q, PutC.init ⟨0, s, ((1 + k : Nat) : Int), x.b⟩)]) (L.take (k + 1)) := by
  obtain ⟨⟨qs, h1⟩, h2, h3, h4⟩ := h
  have h6 := h1.next (s := ((q, PutC.init ⟨0, s, ((1 + k : Nat) : Int), x.b⟩) : putFam.M.σ)) b4 ⟨rfl, hq⟩
  have hz := h1.bel.size
  have hz4 := b4.size
  have hno : ∀ i, ov.ownBlock = some i → kdM κ ss.length w2.heap.size w4.heap.size i = .no ∧ w0.heap.size ≤ i := fun i hi => ⟨(kdM_old (World.ownsRow.lt h2 i hi).2).trans (h3 i hi).2, (h3 i hi).1⟩
  have hbig : ∀ i, w4.heap.size ≤ i → kdM κ ss.length w2.heap.size w4.heap.size i = .no := fun i hi => by
    unfold kdM
    rw [if_neg (by omega)]
    exact h1.no (.inl (by omega))
  refine ⟨kdM κ ss.length w2.heap.size w4.heap.size, fun i hi => kdM_old hi, hbig, ⟨_, h6.keep K5 hno⟩, ?_, ?_, ?_⟩
  · rw [List.length_append, List.map_append]
    exact o5
  · intro g hg
    rcases e5 with e | ⟨i, e, hi⟩
    · rw [e] at hg
      exact ⟨(hno g hg).2, (hno g hg).1⟩
    · rw [e] at hg
      cases hg
      exact ⟨by omega, hbig _ hi⟩
  · rw [List.map_append, h4, putsI_snoc hx]
    rfl
end Go.Proofs.YtknahaaefmlcpaaGreat
