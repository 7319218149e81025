/- A world of fillers over a ring, in memory, pick by pick. Conditions: as each says. -/
import Derived.Test.YtggjhleomocojaaGreatVy
import Derived.Test.YtggjhleomocojaaGreatDv
import Derived.Test.YtggjhleomocojaaGreatWo
namespace Go.Proofs.YtggjhleomocojaaGreat
set_option maxRecDepth 100000
open Go.RowKit
set_option linter.unusedVariables false
set_option linter.unusedSimpArgs false
abbrev FqS : Type := Nat × (Option PutM × FilT)
def filQ : Fam := Fam.Q filFam
structure MeW (s : Nat) (ls : List (List (Int × List Int))) (wm wr : World) (κm κ : Nat → Kd) (W p c : Nat) (av tv : Value) (ab : Nat → Nat) (Ks : List Nat) (n : Nat) (P : List PutM) (G : List (Nat × Nat)) (A : List (Slot × Nat)) (L : List FqS) (S : SW filQ.M.σ) : Prop where
 wo : WoIn filQ wr κ W p c av tv ab S
 acts : S.acts = actsQ (σ := FqS) L
 fw : FilW 0 s ls S.bs P G A 0 0 [] (L.map (·.2))
 key : L.map (·.1) = Ks
 kd : ∀ i, i < wm.heap.size → κ i = κm i
 kp : Keep (fun i => κm i ≠ .no) wm wr
 c0 : 0 ≤ S.cnt
 c1 : S.cnt ≤ n
 tr : S.tr.length ≤ n
variable {W p c : Nat} {av tv : Value} {ab : Nat → Nat} {L : List FqS}
theorem MeW.len {s : Nat} {ls : List (List (Int × List Int))} {wm wr : World} {κm κ : Nat → Kd} {Ks : List Nat} {n : Nat} {P : List PutM} {G : List (Nat × Nat)} {A : List (Slot × Nat)} {S : SW filQ.M.σ} (h : MeW s ls wm wr κm κ W p c av tv ab Ks n P G A L S) : L.length = Ks.length := by
 rw [← h.key]
 simp
theorem MeW.pick {s : Nat} {ls : List (List (Int × List Int))} {wm wr w' : World} {κm κ : Nat → Kd} {Ks : List Nat} {n : Nat} {P : List PutM} {G : List (Nat × Nat)} {A : List (Slot × Nat)} {S : SW filQ.M.σ} {e : Ending} (h : MeW s ls wm wr κm κ W p c av tv ab Ks n P G A L S) {j : Nat} (hj : j < Ks.length) (hp : PickPost filQ wr κ W p c av tv ab (filQ.M.pick S 0 j 0) e w') :
  ∃ κ' tv' P' G' A' L', MeW s ls wm w' κm κ' W p c av tv' ab Ks (n + 1) P' G' A' L' (filQ.M.pick S 0 j 0).1 := by
 obtain ⟨_, _, _, _, _, _, _, _, _, κ', tv', hw, hk, _, kp⟩ := hp
 obtain ⟨⟨q, f⟩, hLj⟩ : ∃ x, L[j]? = some x := ⟨_, List.getElem?_eq_getElem (by have := h.len; omega)⟩
 obtain ⟨t1, _, t3, t4⟩ := pick_facts filQ.M S 0 j 0
 have hz := h.kp.size
 have hfj : (L.map (·.2))[j]? = some f := by rw [List.getElem?_map, hLj]; rfl
 have hat : S.acts[j]? = some ⟨some (q, f), false⟩ := by rw [h.acts]; exact actsQ_at hLj
 have hfit := h.fw.inv.fit
 have hso := h.fw.inv.so
 have fin : ∀ {P' G' A' L'}, (filQ.M.pick S 0 j 0).1.acts = actsQ (σ := FqS) L' → FilW 0 s ls (filQ.M.pick S 0 j 0).1.bs P' G' A' 0 0 [] (L'.map (·.2)) → L'.map (·.1) = L.map (·.1) → MeW s ls wm w' κm κ' W p c av tv' ab Ks (n + 1) P' G' A' L' (filQ.M.pick S 0 j 0).1 := fun {P' G' A' L'} q1 q2 q3 =>
  ⟨hw, q1, q2, q3.trans h.key, fun i hi => (hk i (by omega)).trans (h.kd i hi), h.kp.then kp (fun i hi hn => by rw [h.kd i hi] at hn; exact hn), by have := h.c0; omega, by have := h.c1; omega, by have := h.tr; omega⟩
 obtain ⟨cur, t⟩ := f
 cases cur with
 | some m =>
  obtain ⟨herr, P', G', A', hF, _⟩ := h.fw.pick hfj (by omega)
  obtain ⟨p1, p2, p3⟩ := pick_at (M := filQ.M) hat (show filQ.M.live (q, (some m, t)) = true from rfl) (show (filQ.M.want (q, (some m, t))).err S.bs.length = 0 from herr)
  have e : (L.set j (q, filNx (m.step (m.want.ans S.bs)) t)).map (·.2) = (L.map (·.2)).set j (filNx (m.step (m.want.ans S.bs)) t) := by rw [List.map_set]
  refine ⟨κ', tv', P', G', A', L.set j (q, filNx (m.step (m.want.ans S.bs)) t), fin ?_ ?_ ?_⟩
  ·rw [p1, h.acts]
   exact actsQ_set L j _
  ·rw [p2, e]
   exact hF
  ·exact map_set_same hLj rfl
 | none =>
  obtain ⟨p1, p2, p3⟩ := pick_idle (M := filQ.M) hat (show filQ.M.live (q, (none, t)) = false from rfl)
  exact ⟨κ', tv', P, G, A, L, fin (p1.trans h.acts) (by rw [p2]; exact h.fw) rfl⟩
def flP (x : FqS) : Value := ptr x.1
def flI (x : FqS) : Value := .iface 63 (ptr x.1)
structure FilsTo (w0 wr : World) (ov : Value) (κ : Nat → Kd) (ss : List FqS) : Prop where
 md : ∃ qs, MdAt filQ w0 wr κ qs ss
 ow : wr.ownsRow 0 63 1 ov ss.length (ss.map flP)
 om : ∀ g, ov.ownBlock = some g → w0.heap.size ≤ g ∧ κ g = .no
variable {ov : Value} {κ : Nat → Kd} {ss : List FqS}
theorem FilsTo.below {w0 wr w' : World} (h : FilsTo w0 wr ov κ ss) (b : Below wr.heap.size wr w') : FilsTo w0 w' ov κ ss := by
 obtain ⟨⟨qs, h1⟩, h2, h3⟩ := h
 exact ⟨⟨qs, h1.below b⟩, ownsRow_keep h2 (Below.keeps (M := fun _ => False) b) (fun _ _ => id), h3⟩
theorem FilsTo.bel {w0 wr : World} (h : FilsTo w0 wr ov κ ss) : Below w0.heap.size w0 wr := h.md.elim fun _ h => h.bel
theorem FilsTo.beside {w0 wr w' : World} {K : Nat → Prop} (h : FilsTo w0 wr ov κ ss) (k : Keep K wr w') (hK : ∀ i, K i → κ i = .no ∧ w0.heap.size ≤ i) (ho : ∀ i, K i → ov.ownBlock ≠ some i) : FilsTo w0 w' ov κ ss := by
 obtain ⟨⟨qs, h1⟩, h2, h3⟩ := h
 exact ⟨⟨qs, h1.keep k hK⟩, ownsRow_keep h2 k (fun i hi hk => ho i hk hi), h3⟩
theorem FilsTo.start (w0 w : World) (b : Below w0.heap.size w0 w) : FilsTo w0 w (.slice none 0 0) (fun _ => .no) [] :=
 ⟨⟨fun _ => 0, ⟨fun i s h => absurd (show (none : Option filQ.M.σ) = some s from h) nofun, fun b => .inl rfl, b⟩⟩, World.ownsRow_nil _ _ _ _, (fun g h => by cases h)⟩
theorem FilsTo.next2 {w0 w2 w4 w5 : World} {ov ov' : Value} (h : FilsTo w0 w2 ov κ ss) (b4 : Below w2.heap.size w2 w4) {q : Nat} {F : Nat → Prop} {st : Option PutM × FilT} (hq : filFam.inv w4 F q st) (hF : ∀ i, F i → w2.heap.size ≤ i)
  (K5 : Keep (fun i => ov.ownBlock = some i) w4 w5) (o5 : w5.ownsRow 0 63 1 ov' (ss.length + 1) (ss.map flP ++ [ptr q])) (e5 : ov'.ownBlock = ov.ownBlock ∨ ∃ i, ov'.ownBlock = some i ∧ w4.heap.size ≤ i) :
  ∃ κ', (∀ i, i < w2.heap.size → κ' i = κ i) ∧ (∀ i, w4.heap.size ≤ i → κ' i = .no) ∧ FilsTo w0 w5 ov' κ' (ss ++ [(q, st)]) := by
 obtain ⟨⟨qs, h1⟩, h2, h3⟩ := h
 have hdom := (filFam.dom hq).2
 have h6 := h1.next (s := ((q, st) : filQ.M.σ)) b4 ⟨rfl, filFam.mono hq (fun i hi => ⟨hF i hi, hdom i hi⟩) (fun i hi => hi.2)⟩
 have hz := h1.bel.size
 have hz4 := b4.size
 have hno : ∀ i, ov.ownBlock = some i → kdM κ ss.length w2.heap.size w4.heap.size i = .no ∧ w0.heap.size ≤ i := fun i hi => ⟨(kdM_old (World.ownsRow.lt h2 i hi).2).trans (h3 i hi).2, (h3 i hi).1⟩
 have hbig : ∀ i, w4.heap.size ≤ i → kdM κ ss.length w2.heap.size w4.heap.size i = .no := fun i hi => by
  unfold kdM
  rw [if_neg (by omega)]
  exact h1.no (.inl (by omega))
 refine ⟨kdM κ ss.length w2.heap.size w4.heap.size, fun i hi => kdM_old hi, hbig, ⟨_, h6.keep K5 hno⟩, ?_, ?_⟩
 ·rw [List.length_append, List.map_append]
  exact o5
 ·intro g hg
  rcases e5 with e | ⟨i, e, hi⟩
  ·rw [e] at hg
   exact ⟨(hno g hg).2, (hno g hg).1⟩
  ·rw [e] at hg
   cases hg
   exact ⟨by omega, hbig _ hi⟩
structure FilsIn (w : World) (L : List FqS) (M : Nat → Prop) : Prop where
 at_ : ∀ (i : Nat) (x : FqS), L[i]? = some x → ∃ F, filFam.inv w F x.1 x.2 ∧ ∀ j, F j → ¬ M j
theorem FilsIn.of {w : World} {S : SW filQ.M.σ} (h : WoIn filQ w κ W p c av tv ab S) {L : List FqS} (ha : S.acts = actsQ (σ := FqS) L) {M : Nat → Prop} (hM : ∀ j, M j → κ j = .no ∨ κ j = .bu) : FilsIn w L M := by
 refine ⟨fun i x hx => ?_⟩
 have h1 : S.acts[i]? = some ⟨some x, false⟩ := by rw [ha]; exact actsQ_at hx
 obtain ⟨_, mv, _, q', _, e, hv⟩ := h.act i _ h1
 have e : q' = x.1 := e
 subst e
 refine ⟨_, hv, fun j hj hm => ?_⟩
 rcases hM j hm with e | e <;> rw [hj] at e <;> cases e
theorem FilsIn.keep {w w' : World} {M K : Nat → Prop} (h : FilsIn w L M) (k : Keep K w w') (hK : ∀ j, j < w.heap.size → K j → M j) : FilsIn w' L M := by
 refine ⟨fun i x hx => ?_⟩
 obtain ⟨F, hF, hd⟩ := h.at_ i x hx
 exact ⟨F, filFam.keep hF k (fun j hj hk => hd j hj (hK j ((filFam.dom hF).2 j hj) hk)), hd⟩
end Go.Proofs.YtggjhleomocojaaGreat
