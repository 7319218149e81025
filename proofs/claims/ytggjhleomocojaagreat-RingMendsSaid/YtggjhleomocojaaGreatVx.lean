/- Fillers, and the puts that they made. No program in sight. Conditions: none. -/
import Derived.Test.YtggjhleomocojaaGreatVs
import Derived.Test.YtggjhleomocojaaGreatDd
namespace Go.Proofs.YtggjhleomocojaaGreat
open Go.RowKit
set_option linter.unusedVariables false
def cnt0 (L : List Int) : Nat := (L.filter fun e => e == 0).length
theorem cnt0_snoc (L : List Int) (e : Int) : cnt0 (L ++ [e]) = cnt0 L + (if e = 0 then 1 else 0) := by
 unfold cnt0
 rw [List.filter_append, List.length_append]
 congr 1
 by_cases h : e = 0
 ·simp [h]
 ·simp [h]
structure FR (b s : Int) (P : List PutM) (G : List (Nat × Nat)) (i : Nat) (l : List (Int × List Int)) (c : Nat) (f : Option PutM × FilT) : Prop where
 gl : G.length = P.length
 hb : f.2.b = b
 hs : f.2.s = s
 left : f.2.left = l.drop f.2.done.length
 nn : f.2.done.length ≤ l.length
 pl : f.2.places.length = cnt0 f.2.done
 cur : ∀ m, f.1 = some m → G[c]? = some (i, f.2.done.length) ∧ P[c]? = some m ∧ f.2.done.length < l.length
 live : ∀ (j n : Nat) (m : PutM), G[j]? = some (i, n) → P[j]? = some m → m.live = true → j = c ∧ f.1 = some m
 cs : ∀ (j n : Nat) (m : PutM), G[j]? = some (i, n) → P[j]? = some m → ∃ x, l[n]? = some x ∧ m.c = ⟨b, s, x.1, x.2⟩
 okj : ∀ (j n : Nat) (m : PutM), G[j]? = some (i, n) → P[j]? = some m → m.e = 0 → ¬ (j = c ∧ f.1.isSome = true) → f.2.done[n]? = some 0 ∧ f.2.places[cnt0 (f.2.done.take n)]? = some m.pos
 ok : ∀ n : Nat, f.2.done[n]? = some 0 → ∃ (j : Nat) (m : PutM), G[j]? = some (i, n) ∧ P[j]? = some m ∧ m.e = 0 ∧ f.2.places[cnt0 (f.2.done.take n)]? = some m.pos
variable {b s : Int} {P : List PutM} {G : List (Nat × Nat)} {i : Nat} {l : List (Int × List Int)} {c : Nat}
theorem FR.other {f : Option PutM × FilT} (h : FR b s P G i l c f) {j0 i0 n0 : Nat} {m' : PutM} (hj : G[j0]? = some (i0, n0)) (hne : i0 ≠ i) : FR b s (P.set j0 m') G i l c f := by
 have key : ∀ (j n : Nat), G[j]? = some (i, n) → (P.set j0 m')[j]? = P[j]? := fun j n hg => by
  rw [List.getElem?_set_ne]
  rintro rfl
  rw [hj] at hg
  cases hg
  exact hne rfl
 refine ⟨by rw [List.length_set]; exact h.gl, h.hb, h.hs, h.left, h.nn, h.pl, fun m hm => ?_, fun j n m hg hp => ?_, fun j n m hg hp => ?_, fun j n m hg hp => ?_, fun n hn => ?_⟩
 ·obtain ⟨h1, h2, h3⟩ := h.cur m hm
  exact ⟨h1, by rw [key _ _ h1]; exact h2, h3⟩
 ·rw [key _ _ hg] at hp
  exact h.live j n m hg hp
 ·rw [key _ _ hg] at hp
  exact h.cs j n m hg hp
 ·rw [key _ _ hg] at hp
  exact h.okj j n m hg hp
 ·obtain ⟨j, m, h1, h2, h3⟩ := h.ok n hn
  exact ⟨j, m, h1, by rw [key _ _ h1]; exact h2, h3⟩
theorem FR.more {f : Option PutM × FilT} (h : FR b s P G i l c f) (E : List PutM) (GE : List (Nat × Nat)) (hl : GE.length = E.length) (hne : ∀ g ∈ GE, g.1 ≠ i) : FR b s (P ++ E) (G ++ GE) i l c f := by
 have hgl := h.gl
 have key : ∀ (j n : Nat), (G ++ GE)[j]? = some (i, n) → G[j]? = some (i, n) ∧ (P ++ E)[j]? = P[j]? := fun j n hg => by
  by_cases hj : j < G.length
  ·rw [List.getElem?_append_left hj] at hg
   exact ⟨hg, List.getElem?_append_left (by omega)⟩
  ·rw [List.getElem?_append_right (by omega)] at hg
   exact absurd rfl (hne _ (List.mem_of_getElem? hg))
 have old : ∀ (j : Nat) (g : Nat × Nat), G[j]? = some g → (G ++ GE)[j]? = some g ∧ (P ++ E)[j]? = P[j]? := fun j g hg => by
  have hj := (List.getElem?_eq_some_iff.1 hg).1
  exact ⟨by rw [List.getElem?_append_left hj]; exact hg, List.getElem?_append_left (by omega)⟩
 refine ⟨by rw [List.length_append, List.length_append]; omega, h.hb, h.hs, h.left, h.nn, h.pl, fun m hm => ?_, fun j n m hg hp => ?_, fun j n m hg hp => ?_, fun j n m hg hp => ?_, fun n hn => ?_⟩
 ·obtain ⟨h1, h2, h3⟩ := h.cur m hm
  exact ⟨(old _ _ h1).1, by rw [(old _ _ h1).2]; exact h2, h3⟩
 ·obtain ⟨k1, k2⟩ := key j n hg
  rw [k2] at hp
  exact h.live j n m k1 hp
 ·obtain ⟨k1, k2⟩ := key j n hg
  rw [k2] at hp
  exact h.cs j n m k1 hp
 ·obtain ⟨k1, k2⟩ := key j n hg
  rw [k2] at hp
  exact h.okj j n m k1 hp
 ·obtain ⟨j, m, h1, h2, h3⟩ := h.ok n hn
  exact ⟨j, m, (old _ _ h1).1, by rw [(old _ _ h1).2]; exact h2, h3⟩
variable {t : FilT}
theorem FR.turn {m : PutM} (h : FR b s P G i l c (some m, t)) (m' : PutM) (hc : m'.c = m.c) : FR b s (P.set c m') G i l c (some m', t) := by
 obtain ⟨h1, h2, h3⟩ := h.cur m rfl
 have hcl := (List.getElem?_eq_some_iff.1 h2).1
 refine ⟨by rw [List.length_set]; exact h.gl, h.hb, h.hs, h.left, h.nn, h.pl, fun m2 hm => ?_, fun j n m2 hg hp hl => ?_, fun j n m2 hg hp => ?_, fun j n m2 hg hp he hn => ?_, fun n hn => ?_⟩
 ·cases hm
  exact ⟨h1, List.getElem?_set_self hcl, h3⟩
 ·by_cases e : c = j
  ·subst e
   rw [List.getElem?_set_self hcl] at hp
   exact ⟨rfl, hp⟩
  ·rw [List.getElem?_set_ne e] at hp
   exact absurd (h.live j n m2 hg hp hl).1 (fun q => e q.symm)
 ·by_cases e : c = j
  ·subst e
   rw [List.getElem?_set_self hcl] at hp
   cases hp
   rw [hc]
   exact h.cs c n m hg h2
  ·rw [List.getElem?_set_ne e] at hp
   exact h.cs j n m2 hg hp
 ·by_cases e : c = j
  ·exact absurd ⟨e.symm, rfl⟩ hn
  ·rw [List.getElem?_set_ne e] at hp
   exact h.okj j n m2 hg hp he (fun q => e q.1.symm)
 ·have hn : t.done[n]? = some 0 := hn
  obtain ⟨j, m2, q1, q2, q3⟩ := h.ok n hn
  have e : c ≠ j := by
   rintro rfl
   rw [h1] at q1
   have : t.done.length = n := congrArg (fun x => x.2) (Option.some.inj q1)
   have := (List.getElem?_eq_some_iff.1 hn).1
   omega
  exact ⟨j, m2, q1, by rw [List.getElem?_set_ne e]; exact q2, q3⟩
theorem FR.en {m : PutM} (h : FR b s P G i l c (some m, t)) (hd : m.live = false) : FR b s P G i l c (none, t.en m) := by
 obtain ⟨h1, h2, h3⟩ := h.cur m rfl
 dsimp only at h1 h3
 have hlv : ∀ (j n : Nat) (m2 : PutM), G[j]? = some (i, n) → P[j]? = some m2 → m2.live = true → False := fun j n m2 hg hp hl => by
  have := (h.live j n m2 hg hp hl).2
  cases this
  rw [hd] at hl
  cases hl
 unfold FilT.en
 split
 case isTrue hc =>
  refine ⟨h.gl, h.hb, h.hs, h.left, h.nn, h.pl, fun m2 hm => (by cases hm), fun j n m2 hg hp hl => (hlv j n m2 hg hp hl).elim, h.cs, fun j n m2 hg hp he _ => ?_, h.ok⟩
  by_cases e : j = c
  ·subst e
   rw [h2] at hp
   cases hp
   have := hc.1
   omega
  ·exact h.okj j n m2 hg hp he (fun q => e q.1)
 case isFalse hc =>
  have hlt : t.left = l.drop t.done.length := h.left
  have hrv : m.e = 0 → [m.rv][0]? = some m.pos := fun he => by unfold PutM.rv; rw [if_pos he]; rfl
  have hdl : (t.done ++ [m.e]).length = t.done.length + 1 := by simp
  have hpl : t.places.length = cnt0 t.done := h.pl
  have htk : ∀ n : Nat, n ≤ t.done.length → (t.done ++ [m.e]).take n = t.done.take n := fun n hn => List.take_append_of_le_length hn
  have hat : ∀ n : Nat, n < t.done.length → (t.done ++ [m.e])[n]? = t.done[n]? := fun n hn => List.getElem?_append_left hn
  have hcn : ∀ n : Nat, t.done[n]? = some 0 → cnt0 (t.done.take n) < cnt0 t.done := fun n hn => by
   have h9 := (List.getElem?_eq_some_iff.1 hn).1
   have h8 : t.done = t.done.take n ++ 0 :: t.done.drop (n + 1) := by
    have := drop_at hn
    rw [← this, List.take_append_drop]
   conv => rhs; rw [h8]
   unfold cnt0
   rw [List.filter_append, List.length_append]
   simp
  have hpa : ∀ (k : Nat), k < cnt0 t.done → (if m.e = 0 then t.places ++ [m.rv] else t.places)[k]? = t.places[k]? := fun k hk => by
   split
   ·exact List.getElem?_append_left (by omega)
   ·rfl
  refine ⟨h.gl, h.hb, h.hs, ?_, ?_, ?_, fun m2 hm => (by cases hm), fun j n m2 hg hp hl => (hlv j n m2 hg hp hl).elim, h.cs, fun j n m2 hg hp he _ => ?_, fun n hn => ?_⟩
  ·show t.left.tail = l.drop (t.done ++ [m.e]).length
   rw [hlt, hdl, List.tail_drop]
  ·show (t.done ++ [m.e]).length ≤ l.length
   omega
  ·show (if m.e = 0 then t.places ++ [m.rv] else t.places).length = cnt0 (t.done ++ [m.e])
   rw [cnt0_snoc]
   split
   ·rw [List.length_append, hpl]; rfl
   ·rw [hpl]; rfl
  ·show (t.done ++ [m.e])[n]? = some 0 ∧ (if m.e = 0 then t.places ++ [m.rv] else t.places)[cnt0 ((t.done ++ [m.e]).take n)]? = some m2.pos
   by_cases e : j = c
   ·subst e
    rw [h2] at hp
    cases hp
    rw [h1] at hg
    have hn : t.done.length = n := congrArg (fun x => x.2) (Option.some.inj hg)
    subst hn
    rw [htk _ (Nat.le_refl _), List.take_of_length_le (Nat.le_refl _), if_pos he, List.getElem?_append_right (Nat.le_refl _), Nat.sub_self, ← hpl, List.getElem?_append_right (Nat.le_refl _), Nat.sub_self, he]
    exact ⟨rfl, hrv he⟩
   ·obtain ⟨q1, q2⟩ := h.okj j n m2 hg hp he (fun q => e q.1)
    have q1 : t.done[n]? = some 0 := q1
    have hnl := (List.getElem?_eq_some_iff.1 q1).1
    rw [hat n hnl, htk n (by omega), hpa _ (hcn n q1)]
    exact ⟨q1, q2⟩
  ·have hn : (t.done ++ [m.e])[n]? = some 0 := hn
   show ∃ (j : Nat) (m2 : PutM), G[j]? = some (i, n) ∧ P[j]? = some m2 ∧ m2.e = 0 ∧ (if m.e = 0 then t.places ++ [m.rv] else t.places)[cnt0 ((t.done ++ [m.e]).take n)]? = some m2.pos
   by_cases hnl : n < t.done.length
   ·rw [hat n hnl] at hn
    obtain ⟨j, m2, q1, q2, q3, q4⟩ := h.ok n hn
    exact ⟨j, m2, q1, q2, q3, by rw [htk n (by omega), hpa _ (hcn n hn)]; exact q4⟩
   ·rw [List.getElem?_append_right (by omega)] at hn
    have e : n - t.done.length = 0 := by
     have := (List.getElem?_eq_some_iff.1 hn).1
     simp at this
     omega
    rw [e] at hn
    have he : m.e = 0 := by simpa using hn
    obtain rfl : n = t.done.length := by omega
    refine ⟨c, m, h1, h2, he, ?_⟩
    rw [htk _ (Nat.le_refl _), List.take_of_length_le (Nat.le_refl _), if_pos he, ← hpl, List.getElem?_append_right (Nat.le_refl _), Nat.sub_self]
    exact hrv he
theorem FR.mo (h : FR b s P G i l c (none, t)) {x : Int × List Int} {r : List (Int × List Int)} (hl : t.left = x :: r) : FR b s (P ++ [PutC.init ⟨b, s, x.1, x.2⟩]) (G ++ [(i, t.done.length)]) i l P.length (some (PutC.init ⟨b, s, x.1, x.2⟩), t) := by
 have hgl := h.gl
 have hlt : t.left = l.drop t.done.length := h.left
 have hx : l[t.done.length]? = some x := by
  have : (l.drop t.done.length)[0]? = some x := by rw [← hlt, hl]; rfl
  rw [List.getElem?_drop] at this
  exact this
 have key : ∀ (j : Nat) (g : Nat × Nat) (m : PutM), (G ++ [(i, t.done.length)])[j]? = some g → (P ++ [PutC.init ⟨b, s, x.1, x.2⟩])[j]? = some m → (j < P.length ∧ G[j]? = some g ∧ P[j]? = some m) ∨ (j = P.length ∧ g = (i, t.done.length) ∧ m = PutC.init ⟨b, s, x.1, x.2⟩) := fun j g m hg hp => by
  by_cases hj : j < P.length
  ·rw [List.getElem?_append_left (by omega)] at hg
   rw [List.getElem?_append_left hj] at hp
   exact .inl ⟨hj, hg, hp⟩
  ·rw [List.getElem?_append_right (by omega)] at hp
   have e : j - P.length = 0 := by
    have := (List.getElem?_eq_some_iff.1 hp).1
    simp at this
    omega
   rw [List.getElem?_append_right (by omega), show j - G.length = 0 by omega] at hg
   rw [e] at hp
   refine .inr ⟨by omega, ?_, ?_⟩
   ·simpa using hg.symm
   ·simpa using hp.symm
 have hne : (PutC.init ⟨b, s, x.1, x.2⟩).e ≠ 0 := by
  show PutC.e0 _ ≠ 0
  unfold PutC.e0
  split
  ·split <;> decide
  ·decide
 refine ⟨by simp; omega, h.hb, h.hs, h.left, h.nn, h.pl, fun m hm => ?_, fun j n m hg hp hv => ?_, fun j n m hg hp => ?_, fun j n m hg hp he hn => ?_, fun n hn => ?_⟩
 ·cases hm
  refine ⟨?_, ?_, (List.getElem?_eq_some_iff.1 hx).1⟩
  ·rw [← hgl, List.getElem?_append_right (Nat.le_refl _), Nat.sub_self]
   rfl
  ·rw [List.getElem?_append_right (Nat.le_refl _), Nat.sub_self]
   rfl
 ·rcases key j _ m hg hp with ⟨hj, q1, q2⟩ | ⟨rfl, _, rfl⟩
  ·have := (h.live j n m q1 q2 hv).2
   cases this
  ·exact ⟨rfl, rfl⟩
 ·rcases key j _ m hg hp with ⟨hj, q1, q2⟩ | ⟨rfl, e, rfl⟩
  ·exact h.cs j n m q1 q2
  ·cases e
   exact ⟨x, hx, rfl⟩
 ·rcases key j _ m hg hp with ⟨hj, q1, q2⟩ | ⟨rfl, e, rfl⟩
  ·exact h.okj j n m q1 q2 he (fun q => by cases q.2)
  ·exact absurd he hne
 ·obtain ⟨j, m, q1, q2, q3⟩ := h.ok n hn
  have hj := (List.getElem?_eq_some_iff.1 q2).1
  exact ⟨j, m, by rw [List.getElem?_append_left (by omega)]; exact q1, by rw [List.getElem?_append_left hj]; exact q2, q3⟩
theorem fil_s0 (n : Nat) (t : FilT) : filC.settle n ((none, t) : Option PutM × FilT) = ((none, t) : Option PutM × FilT) := by cases n <;> rfl
theorem fil_sl (n : Nat) (m : PutM) (t : FilT) (h : m.live = true) : filC.settle (n + 1) ((some m, t) : Option PutM × FilT) = ((some m, t) : Option PutM × FilT) := if_pos h
theorem fil_sd (n : Nat) (m : PutM) (t : FilT) (h : m.live = false) : filC.settle (n + 1) ((some m, t) : Option PutM × FilT) = filC.settle n (filC.mo (t.en m)) := if_neg (by show ¬ m.live = true; rw [h]; decide)
theorem FR.settle : ∀ (n : Nat) {P : List PutM} {G : List (Nat × Nat)} {c : Nat} {f : Option PutM × FilT}, FR b s P G i l c f → ∃ E GE c', FR b s (P ++ E) (G ++ GE) i l c' (filC.settle n f) ∧ GE.length = E.length ∧ (∀ g ∈ GE, g.1 = i) ∧ ∀ m ∈ E, ∃ x ∈ l, m = PutC.init ⟨b, s, x.1, x.2⟩ := by
 intro n
 induction n with
 | zero => exact fun {P G c f} h => ⟨[], [], c, by rw [List.append_nil, List.append_nil]; exact h, rfl, fun g hg => (by cases hg), fun m hm => (by cases hm)⟩
 | succ n ih =>
  intro P G c f h
  obtain ⟨cur, t⟩ := f
  cases cur with
  | none => exact ⟨[], [], c, by rw [fil_s0, List.append_nil, List.append_nil]; exact h, rfl, fun g hg => (by cases hg), fun m hm => (by cases hm)⟩
  | some m =>
   by_cases hv : m.live = true
   ·exact ⟨[], [], c, by rw [fil_sl n m t hv, List.append_nil, List.append_nil]; exact h, rfl, fun g hg => (by cases hg), fun m hm => (by cases hm)⟩
   ·have hv' : m.live = false := by simpa using hv
    have e := fil_sd n m t hv'
    have h1 := h.en hv'
    rw [e]
    cases hl : (t.en m).left with
    | nil =>
     rw [fil_mo_nil hl]
     exact ih h1
    | cons x r =>
     rw [fil_mo_cons hl, h1.hb, h1.hs]
     obtain ⟨E, GE, c', q1, q2, q3, q4⟩ := ih (h1.mo hl)
     refine ⟨PutC.init ⟨b, s, x.1, x.2⟩ :: E, (i, (t.en m).done.length) :: GE, c', ?_, ?_, ?_, ?_⟩
     ·rw [List.append_assoc, List.append_assoc] at q1
      exact q1
     ·simp [q2]
     ·intro g hg
      rcases List.mem_cons.1 hg with rfl | hg
      ·rfl
      ·exact q3 g hg
     ·intro m2 hm
      rcases List.mem_cons.1 hm with rfl | hm
      ·refine ⟨x, ?_, rfl⟩
       have hlt : (t.en m).left = l.drop (t.en m).done.length := h1.left
       rw [hl] at hlt
       exact List.mem_of_mem_drop (hlt ▸ List.mem_cons_self ..)
      ·exact q4 m2 hm
end Go.Proofs.YtggjhleomocojaaGreat
namespace Go.Proofs.YtggjhleomocojaaGreat
open Go.RowKit
set_option linter.unusedVariables false
variable {b s : Nat} {bs : List Int} {P : List PutM} {A : List (Slot × Nat)} {k H : Nat} {F : List (List Int)}
theorem Inv.more1 (h : Inv b s bs P A k H F) (c : PutC) (hb : c.b = b) (hs : c.s = s) (hd : IsB c.d) (ht : c.typ ≤ 2147483647) : Inv b s bs (P ++ [PutC.init c]) A k H F := by
 refine ⟨h.so, h.b8, h.rg, h.kl, h.fk, h.h8, h.ok, h.fn, fun _ x hx => by have := h.ow id x hx; rw [List.length_append]; omega, h.cp, fun i m hi => ?_⟩
 by_cases hl : i < P.length
 ·rw [List.getElem?_append_left hl] at hi
  exact h.pt i m hi
 ·rw [List.getElem?_append_right (by omega)] at hi
  have e : i - P.length = 0 := by
   have := (List.getElem?_eq_some_iff.1 hi).1
   simp at this
   omega
  rw [e] at hi
  simp at hi
  subst hi
  exact PRel.init hb hs hd ht (fun x hx e => by have := h.ow id x hx; omega)
theorem Inv.mores : ∀ (E : List PutM) {P : List PutM}, Inv b s bs P A k H F → (∀ m ∈ E, ∃ c : PutC, m = PutC.init c ∧ c.b = b ∧ c.s = s ∧ IsB c.d ∧ c.typ ≤ 2147483647) → Inv b s bs (P ++ E) A k H F
 | [], P, h, _ => by rw [List.append_nil]; exact h
 | m :: E, P, h, hE => by
  obtain ⟨c, rfl, h1, h2, h3, h4⟩ := hE m (List.mem_cons_self ..)
  have := Inv.mores E (h.more1 c h1 h2 h3 h4) (fun m hm => hE m (List.mem_cons_of_mem _ hm))
  rw [List.append_assoc] at this
  exact this
structure FilW (b s : Nat) (ls : List (List (Int × List Int))) (bs : List Int) (P : List PutM) (G : List (Nat × Nat)) (A : List (Slot × Nat)) (k H : Nat) (F : List (List Int)) (FL : List (Option PutM × FilT)) : Prop where
 inv : Inv b s bs P A k H F
 ll : FL.length = ls.length
 gl : G.length = P.length
 tg : ∀ g ∈ G, g.1 < ls.length
 lo : ∀ l ∈ ls, ∀ x ∈ l, IsB x.2 ∧ x.1 ≤ 2147483647
 rel : ∀ (i : Nat) (f : Option PutM × FilT) (l : List (Int × List Int)), FL[i]? = some f → ls[i]? = some l → ∃ c, FR b s P G i l c f
 fin : ∀ f ∈ FL, ∀ m, f.1 = some m → m.live = true
variable {ls : List (List (Int × List Int))} {G : List (Nat × Nat)} {FL : List (Option PutM × FilT)}
theorem FilW.at_ (h : FilW b s ls bs P G A k H F FL) {i : Nat} {f : Option PutM × FilT} (hf : FL[i]? = some f) : ∃ l, ls[i]? = some l := by
 have := (List.getElem?_eq_some_iff.1 hf).1
 have := h.ll
 exact ⟨_, List.getElem?_eq_getElem (by omega)⟩
def filNx (m : PutM) (t : FilT) : Option PutM × FilT := filC.settle (t.left.length + 2) ((some m, t) : Option PutM × FilT)
theorem FilW.pick (h : FilW b s ls bs P G A k H F FL) {i : Nat} {m : PutM} {t : FilT} (hf : FL[i]? = some (some m, t)) (hT : ln A ≤ 4611686018427387000) :
  m.want.err bs.length = 0 ∧ ∃ P' G' A', FilW b s ls (m.want.out bs) P' G' A' k H F (FL.set i (filNx (m.step (m.want.ans bs)) t)) ∧ A'.take k = A.take k := by
 obtain ⟨l, hl⟩ := h.at_ hf
 obtain ⟨c, hr⟩ := h.rel i _ l hf hl
 obtain ⟨h1, h2, h3⟩ := hr.cur m rfl
 have hlv := h.fin _ (List.mem_of_getElem? hf) m rfl
 obtain ⟨herr, A', hI, htk, _⟩ := put_go h.inv h2 hlv hT
 have hr1 := hr.turn (m.step (m.want.ans bs)) (put_same m _)
 obtain ⟨E, GE, c', hr2, e1, e2, e3⟩ := hr1.settle (t.left.length + 2)
 have hr2 : FR b s (P.set c (m.step (m.want.ans bs)) ++ E) (G ++ GE) i l c' (filNx (m.step (m.want.ans bs)) t) := hr2
 have hil := (List.getElem?_eq_some_iff.1 hf).1
 refine ⟨herr, P.set c (m.step (m.want.ans bs)) ++ E, G ++ GE, A', ⟨Inv.mores E hI (fun m2 hm2 => ?_), by rw [List.length_set]; exact h.ll, by rw [List.length_append, List.length_append, List.length_set, h.gl, e1], fun g hg => ?_, h.lo, fun i' f' l' hf' hl' => ?_, fun f' hf' m2 hm2 => ?_⟩, htk⟩
 ·obtain ⟨x, hx, rfl⟩ := e3 m2 hm2
  obtain ⟨q1, q2⟩ := h.lo l (List.mem_of_getElem? hl) x hx
  exact ⟨_, rfl, rfl, rfl, q1, q2⟩
 ·rcases List.mem_append.1 hg with hg | hg
  ·exact h.tg g hg
  ·rw [e2 g hg]
   exact (List.getElem?_eq_some_iff.1 hl).1
 ·by_cases e : i = i'
  ·subst e
   rw [List.getElem?_set_self hil] at hf'
   rw [hl] at hl'
   cases hf'
   cases hl'
   exact ⟨c', hr2⟩
  ·rw [List.getElem?_set_ne e] at hf'
   obtain ⟨c2, hr'⟩ := h.rel i' f' l' hf' hl'
   exact ⟨c2, (hr'.other h1 e).more E GE e1 (fun g hg => by rw [e2 g hg]; exact e)⟩
 ·rcases List.mem_or_eq_of_mem_set hf' with hf' | rfl
  ·exact h.fin f' hf' m2 hm2
  ·exact fil_enough.all (m.step (m.want.ans bs)) t (by
    show t.left ≠ []
    have : t.left = l.drop t.done.length := hr.left
    rw [this]
    intro e0
    have := congrArg List.length e0
    simp at this
    have h3 : t.done.length < l.length := h3
    omega) m2 hm2
def okP (l : List (Int × List Int)) (t : FilT) : List Pt := (List.range t.done.length).filterMap fun n => if t.done[n]? = some 0 then some ⟨t.places.getD (cnt0 (t.done.take n)) 0, (l.getD n (0, [])).1, (l.getD n (0, [])).2⟩ else none
theorem okP_mem {l : List (Int × List Int)} {t : FilT} {x : Pt} : x ∈ okP l t ↔ ∃ n, t.done[n]? = some 0 ∧ x = ⟨t.places.getD (cnt0 (t.done.take n)) 0, (l.getD n (0, [])).1, (l.getD n (0, [])).2⟩ := by
 unfold okP
 rw [List.mem_filterMap]
 constructor
 ·rintro ⟨n, hn, h⟩
  by_cases hc : t.done[n]? = some 0
  ·rw [if_pos hc] at h
   exact ⟨n, hc, (Option.some.inj h).symm⟩
  ·rw [if_neg hc] at h
   cases h
 ·rintro ⟨n, hc, rfl⟩
  exact ⟨n, List.mem_range.2 (List.getElem?_eq_some_iff.1 hc).1, if_pos hc⟩
theorem FilW.okAt (h : FilW b s ls bs P G A k H F FL) {i n : Nat} {f : Option PutM × FilT} {l : List (Int × List Int)} (hf : FL[i]? = some f) (hl : ls[i]? = some l) (hn : f.2.done[n]? = some 0) :
  ∃ (j : Nat) (m : PutM), G[j]? = some (i, n) ∧ P[j]? = some m ∧ m.e = 0 ∧ (⟨f.2.places.getD (cnt0 (f.2.done.take n)) 0, (l.getD n (0, [])).1, (l.getD n (0, [])).2⟩ : Pt) = ⟨m.pos, m.c.typ, m.c.d⟩ := by
 obtain ⟨c, hr⟩ := h.rel i f l hf hl
 obtain ⟨j, m, q1, q2, q3, q4⟩ := hr.ok n hn
 obtain ⟨x, hx, hc⟩ := hr.cs j n m q1 q2
 refine ⟨j, m, q1, q2, q3, ?_⟩
 rw [List.getD_eq_getElem?_getD, q4, List.getD_eq_getElem?_getD, hx, hc]
 rfl
theorem FilW.pts_of (h : FilW b s ls bs P G A k H F FL) (x : Pt) :
  x ∈ pts 0 A ↔ ∃ (i : Nat) (f : Option PutM × FilT) (l : List (Int × List Int)), FL[i]? = some f ∧ ls[i]? = some l ∧ x ∈ okP l f.2 := by
 rw [h.inv.pts_of]
 constructor
 ·rintro ⟨m, hm, he, rfl⟩
  obtain ⟨j, hj⟩ := List.getElem?_of_mem hm
  have hjl := (List.getElem?_eq_some_iff.1 hj).1
  obtain ⟨⟨i, n⟩, hg⟩ : ∃ g, G[j]? = some g := ⟨_, List.getElem?_eq_getElem (by have := h.gl; omega)⟩
  have hi := h.tg _ (List.mem_of_getElem? hg)
  have hll := h.ll
  obtain ⟨f, hf⟩ : ∃ f, FL[i]? = some f := ⟨_, List.getElem?_eq_getElem (by omega)⟩
  obtain ⟨l, hl⟩ : ∃ l, ls[i]? = some l := ⟨_, List.getElem?_eq_getElem hi⟩
  obtain ⟨c, hr⟩ := h.rel i f l hf hl
  refine ⟨i, f, l, hf, hl, okP_mem.2 ⟨n, ?_⟩⟩
  obtain ⟨q1, q2⟩ := hr.okj j n m hg hj he (fun q => by
   obtain ⟨rfl, q⟩ := q
   obtain ⟨m', hm'⟩ := Option.isSome_iff_exists.1 q
   have h2 := (hr.cur m' hm').2.1
   rw [hj] at h2
   cases h2
   have := ((h.inv.pt j m hj).lv (h.fin f (List.mem_of_getElem? hf) m hm')).2
   omega)
  obtain ⟨x, hx, hc⟩ := hr.cs j n m hg hj
  refine ⟨q1, ?_⟩
  rw [List.getD_eq_getElem?_getD, q2, List.getD_eq_getElem?_getD, hx, hc]
  rfl
 ·rintro ⟨i, f, l, hf, hl, hx⟩
  obtain ⟨n, hn, rfl⟩ := okP_mem.1 hx
  obtain ⟨j, m, q1, q2, q3, q4⟩ := h.okAt hf hl hn
  exact ⟨m, List.mem_of_getElem? q2, q3, q4⟩
theorem FilW.apart (h : FilW b s ls bs P G A k H F FL) {j j' : Nat} {m m' : PutM} (h1 : P[j]? = some m) (h2 : P[j']? = some m') (e1 : m.e = 0) (e2 : m'.e = 0) (hp : m.pos = m'.pos) : j = j' := by
 have dead : ∀ {j : Nat} {m : PutM}, P[j]? = some m → m.e = 0 → m.live = false := fun {j m} hj he => by
  cases hl : m.live with
  | false => rfl
  | true =>
   have := ((h.inv.pt j m hj).lv hl).2
   omega
 obtain ⟨a, ha⟩ := h.inv.has h1 (dead h1 e1) e1
 obtain ⟨a', ha'⟩ := h.inv.has h2 (dead h2 e2) e2
 obtain ⟨_, g1, _, _, _, q1⟩ := h.inv.whose0 ha
 obtain ⟨_, g2, _, _, _, q2⟩ := h.inv.whose0 ha'
 rw [h1] at g1
 rw [h2] at g2
 cases g1
 cases g2
 have e : ln (A.take a) = ln (A.take a') := by omega
 have hal := (List.getElem?_eq_some_iff.1 ha).1
 have hal' := (List.getElem?_eq_some_iff.1 ha').1
 have : a = a' := by
  rcases Nat.le_total a a' with q | q
  ·exact ln_inj h.inv.ok q (by omega) e
  ·exact (ln_inj h.inv.ok q (by omega) e.symm).symm
 subst this
 rw [ha] at ha'
 exact congrArg (fun x => x.2) (Option.some.inj ha')
theorem fold_ins : ∀ (R out : List Pt), Srt out → R.Pairwise (fun a b => a.p ≠ b.p) → (∀ x ∈ R, ∀ y ∈ out, y.p ≠ x.p) → Srt (R.foldl (fun o p => insP p o) out) ∧ ∀ x, x ∈ R.foldl (fun o p => insP p o) out ↔ x ∈ R ∨ x ∈ out
 | [], out, h, _, _ => ⟨h, fun x => by simp⟩
 | a :: R, out, h, hR, hd => by
  obtain ⟨r1, r2⟩ := List.pairwise_cons.1 hR
  obtain ⟨q1, q2⟩ := fold_ins R (insP a out) (insP_srt a h (fun q hq => hd a (List.mem_cons_self ..) q hq)) r2 (fun x hx y hy => by
   rcases (insP_mem a y out).1 hy with rfl | hy
   ·exact r1 x hx
   ·exact hd x (List.mem_cons_of_mem _ hx) y hy)
  refine ⟨q1, fun x => ?_⟩
  show x ∈ R.foldl (fun o p => insP p o) (insP a out) ↔ _
  rw [q2, insP_mem, List.mem_cons]
  constructor
  ·rintro (h | h | h)
   ·exact .inl (.inr h)
   ·exact .inl (.inl h)
   ·exact .inr h
  ·rintro ((h | h) | h)
   ·exact .inr (.inl h)
   ·exact .inl h
   ·exact .inr (.inr h)
def okPts (Z : List (FilT × List (Int × List Int))) : List Pt := Z.flatMap fun z => okP z.2 z.1
def allP (Z : List (FilT × List (Int × List Int))) : List Pt := (okPts Z).foldl (fun o p => insP p o) []
def zipF (FL : List (Option PutM × FilT)) (ls : List (List (Int × List Int))) : List (FilT × List (Int × List Int)) := (FL.map (·.2)).zip ls
theorem zipF_at {i : Nat} {z : FilT × List (Int × List Int)} (h : (zipF FL ls)[i]? = some z) : ∃ f, FL[i]? = some f ∧ f.2 = z.1 ∧ ls[i]? = some z.2 := by
 unfold zipF at h
 rw [List.getElem?_zip_eq_some] at h
 obtain ⟨h1, h2⟩ := h
 rw [List.getElem?_map] at h1
 obtain ⟨f, hf, e⟩ := Option.map_eq_some_iff.1 h1
 exact ⟨f, hf, e, h2⟩
theorem FilW.all (h : FilW b s ls bs P G A k H F FL) : allP (zipF FL ls) = pts 0 A := by
 have hpw : (okPts (zipF FL ls)).Pairwise (fun a b => a.p ≠ b.p) := by
  unfold okPts
  have two : ∀ {i i' n n' : Nat} {f f' : Option PutM × FilT} {l l' : List (Int × List Int)}, FL[i]? = some f → ls[i]? = some l → FL[i']? = some f' → ls[i']? = some l' → f.2.done[n]? = some 0 → f'.2.done[n']? = some 0 → (i ≠ i' ∨ n ≠ n') → f.2.places.getD (cnt0 (f.2.done.take n)) 0 ≠ f'.2.places.getD (cnt0 (f'.2.done.take n')) 0 := by
   intro i i' n n' f f' l l' h1 h2 h3 h4 h5 h6 hne e
   obtain ⟨j, m, q1, q2, q3, q4⟩ := h.okAt h1 h2 h5
   obtain ⟨j', m', p1, p2, p3, p4⟩ := h.okAt h3 h4 h6
   have e1 := congrArg Pt.p q4
   have e2 := congrArg Pt.p p4
   dsimp only at e1 e2
   have := h.apart q2 p2 q3 p3 (by omega)
   subst this
   rw [q1] at p1
   have p1 := Option.some.inj p1
   have g1 : i = i' := congrArg (fun x => x.1) p1
   have g2 : n = n' := congrArg (fun x => x.2) p1
   rcases hne with hne | hne
   ·exact hne g1
   ·exact hne g2
  rw [List.pairwise_flatMap]
  constructor
  ·intro z hz
   obtain ⟨i, hi⟩ := List.getElem?_of_mem hz
   obtain ⟨f, hf, e, hl⟩ := zipF_at hi
   obtain ⟨t, l⟩ := z
   dsimp only at e hl ⊢
   subst e
   unfold okP
   rw [List.pairwise_filterMap]
   refine List.Pairwise.imp ?_ (List.pairwise_lt_range (n := f.2.done.length))
   intro n n' hlt x hx y hy
   by_cases c1 : f.2.done[n]? = some 0
   ·by_cases c2 : f.2.done[n']? = some 0
    ·rw [if_pos c1] at hx
     rw [if_pos c2] at hy
     cases hx
     cases hy
     exact two hf hl hf hl c1 c2 (.inr (by omega))
    ·rw [if_neg c2] at hy
     cases hy
   ·rw [if_neg c1] at hx
    cases hx
  ·rw [List.pairwise_iff_getElem]
   intro i i' hi hi' hlt x hx y hy
   obtain ⟨f, hf, e, hl⟩ := zipF_at (List.getElem?_eq_getElem hi)
   obtain ⟨f', hf', e', hl'⟩ := zipF_at (List.getElem?_eq_getElem hi')
   rw [← e] at hx
   rw [← e'] at hy
   obtain ⟨n, c1, rfl⟩ := okP_mem.1 hx
   obtain ⟨n', c2, rfl⟩ := okP_mem.1 hy
   exact two hf hl hf' hl' c1 c2 (.inl (by omega))
 obtain ⟨q1, q2⟩ := fold_ins (okPts (zipF FL ls)) [] List.Pairwise.nil hpw (fun x _ y hy => by cases hy)
 refine srt_ext q1 (pts_srt A 0 h.inv.ok) (fun x => ?_)
 unfold allP
 rw [q2, h.pts_of]
 constructor
 ·rintro (hx | hx)
  ·obtain ⟨z, hz, hx⟩ := List.mem_flatMap.1 hx
   obtain ⟨i, hi⟩ := List.getElem?_of_mem hz
   obtain ⟨f, hf, e, hl⟩ := zipF_at hi
   rw [← e] at hx
   exact ⟨i, f, z.2, hf, hl, hx⟩
  ·cases hx
 ·rintro ⟨i, f, l, hf, hl, hx⟩
  refine .inl (List.mem_flatMap.2 ⟨(f.2, l), ?_, hx⟩)
  refine List.mem_of_getElem? (i := i) ?_
  unfold zipF
  rw [List.getElem?_zip_eq_some, List.getElem?_map, hf]
  exact ⟨rfl, hl⟩
end Go.Proofs.YtggjhleomocojaaGreat
namespace Go.Proofs.YtggjhleomocojaaGreat
open Go.RowKit
set_option linter.unusedVariables false
theorem chain_runs {M : Mac} (c : ChP M) {t : c.τ} {m m' : M.σ} {bs bs' : List Int} {n : Nat} (h : Runs M m bs n m' bs') (hl : M.live m = true) (hd : M.live m' = false) (hf : ∀ m2, M.live m2 = true → c.settle (c.fu t) (some m2, t) = (some m2, t)) : Runs c.mac ((some m, t) : Option M.σ × c.τ) bs n (c.settle (c.fu t) (some m', t)) bs' := by
 induction h with
 | refl s bs => rw [hl] at hd; cases hd
 | @step s bs n s' bs' h1 he hr ih =>
  refine .step (M := c.mac) rfl he ?_
  show Runs c.mac (c.settle (c.fu t) (some (M.step s ((M.want s).ans bs)), t)) ((M.want s).out bs) n _ bs'
  by_cases hv : M.live (M.step s ((M.want s).ans bs)) = true
  ·rw [hf _ hv]
   exact ih hv hd
  ·have hv' : M.live (M.step s ((M.want s).ans bs)) = false := by simpa using hv
   cases hr with
   | refl => exact .refl _ _
   | step h2 _ _ => rw [hv'] at h2; cases h2
variable {b s : Nat} {bs : List Int} {A : List (Slot × Nat)} {k H : Nat} {F : List (List Int)}
theorem FilW.start (h : Inv b s bs [] A k H F) : FilW b s [] bs [] [] A k H F [] :=
 ⟨h, rfl, rfl, fun g hg => (by cases hg), fun l hl => (by cases hl), fun i f l hf => (by simp at hf), fun f hf => by cases hf⟩
def filT0 (b s : Int) (l : List (Int × List Int)) (tries : Int) : FilT := ⟨b, s, l, tries, [], []⟩
def filNew0 (t : FilT) : Option PutM × FilT := filC.settle (t.left.length + 2) ((t.mo, t) : Option PutM × FilT)
theorem filNew0_fin (t : FilT) : ∀ m, (filNew0 t).1 = some m → m.live = true := by
 have h := fil_settle (t.left.length + 2) t (by omega)
 exact h
variable {ls : List (List (Int × List Int))} {P : List PutM} {G : List (Nat × Nat)} {FL : List (Option PutM × FilT)}
theorem FilW.add (h : FilW b s ls bs P G A k H F FL) (l : List (Int × List Int)) (hl : ∀ x ∈ l, IsB x.2 ∧ x.1 ≤ 2147483647) (tries : Int) :
  ∃ E GE, FilW b s (ls ++ [l]) bs (P ++ E) (G ++ GE) A k H F (FL ++ [filNew0 (filT0 b s l tries)]) := by
 have hno : ∀ (j n : Nat), G[j]? = some (ls.length, n) → False := fun j n hg => by
  have := h.tg _ (List.mem_of_getElem? hg)
  exact absurd this (Nat.lt_irrefl _)
 have h0 : FR b s P G ls.length l 0 (none, filT0 b s l tries) := by
  refine ⟨h.gl, rfl, rfl, rfl, Nat.zero_le _, rfl, fun m hm => (by cases hm), fun j n m hg _ _ => (hno j n hg).elim, fun j n m hg _ => (hno j n hg).elim, fun j n m hg _ _ _ => (hno j n hg).elim, fun n hn => ?_⟩
  have hn : ([] : List Int)[n]? = some 0 := hn
  simp at hn
 obtain ⟨E, GE, c', q1, q2, q3, q4⟩ : ∃ E GE c', FR b s (P ++ E) (G ++ GE) ls.length l c' (filNew0 (filT0 b s l tries)) ∧ GE.length = E.length ∧ (∀ g ∈ GE, g.1 = ls.length) ∧ ∀ m ∈ E, ∃ x ∈ l, m = PutC.init ⟨b, s, x.1, x.2⟩ := by
  unfold filNew0
  cases l with
  | nil =>
   refine ⟨[], [], 0, ?_, rfl, fun g hg => (by cases hg), fun m hm => by cases hm⟩
   rw [List.append_nil, List.append_nil]
   have e : (filT0 b s [] tries).mo = none := rfl
   rw [e, fil_s0]
   exact h0
  | cons x r =>
   have h1 := h0.mo (x := x) (r := r) rfl
   obtain ⟨E, GE, c', q1, q2, q3, q4⟩ := h1.settle ((filT0 b s (x :: r) tries).left.length + 2)
   refine ⟨PutC.init ⟨b, s, x.1, x.2⟩ :: E, (ls.length, 0) :: GE, c', ?_, by simp [q2], fun g hg => ?_, fun m hm => ?_⟩
   ·rw [List.append_assoc, List.append_assoc] at q1
    exact q1
   ·rcases List.mem_cons.1 hg with rfl | hg
    ·rfl
    ·exact q3 g hg
   ·rcases List.mem_cons.1 hm with rfl | hm
    ·exact ⟨x, List.mem_cons_self .., rfl⟩
    ·exact q4 m hm
 refine ⟨E, GE, ⟨Inv.mores E h.inv (fun m hm => ?_), by rw [List.length_append, List.length_append, h.ll]; rfl, by rw [List.length_append, List.length_append, h.gl, q2], fun g hg => ?_, fun l' hl' => ?_, fun i f l' hf hl' => ?_, fun f hf m hm => ?_⟩⟩
 ·obtain ⟨x, hx, rfl⟩ := q4 m hm
  obtain ⟨p1, p2⟩ := hl x hx
  exact ⟨_, rfl, rfl, rfl, p1, p2⟩
 ·rw [List.length_append]
  rcases List.mem_append.1 hg with hg | hg
  ·have := h.tg g hg
   omega
  ·rw [q3 g hg]
   exact Nat.lt_succ_self _
 ·rcases List.mem_append.1 hl' with hl' | hl'
  ·exact h.lo l' hl'
  ·rw [List.mem_singleton.1 hl']
   exact hl
 ·have hll := h.ll
  by_cases hi : i < FL.length
  ·rw [List.getElem?_append_left hi] at hf
   rw [List.getElem?_append_left (by omega)] at hl'
   obtain ⟨c, hr⟩ := h.rel i f l' hf hl'
   exact ⟨c, hr.more E GE q2 (fun g hg => by rw [q3 g hg]; omega)⟩
  ·have e : i = FL.length := by
    have := (List.getElem?_eq_some_iff.1 hf).1
    simp at this
    omega
   subst e
   rw [List.getElem?_append_right (Nat.le_refl _), Nat.sub_self] at hf
   rw [hll, List.getElem?_append_right (Nat.le_refl _), Nat.sub_self] at hl'
   cases hf
   cases hl'
   exact ⟨c', by rw [hll]; exact q1⟩
 ·rcases List.mem_append.1 hf with hf | hf
  ·exact h.fin f hf m hm
  ·rw [List.mem_singleton.1 hf] at hm
   exact filNew0_fin _ m hm
theorem Inv.live_of (h : Inv b s bs P A k H F) {j' i : Nat} {y : Slot} (hj' : A[j']? = some (y, i)) (hy : y.fin = false) : ∃ m, P[i]? = some m ∧ m.live = true := by
 have hi : i < P.length := h.ow id _ (List.mem_of_getElem? hj')
 obtain ⟨m, hm⟩ : ∃ m, P[i]? = some m := ⟨_, List.getElem?_eq_getElem hi⟩
 have hr := (h.pt i m hm).pc
 refine ⟨m, hm, ?_⟩
 obtain ⟨c, pc, hd, pos, cl, e⟩ := m
 cases pc with
 | done =>
  exfalso
  rcases hr with ⟨_, _, j, hI⟩ | ⟨_, _, hU⟩
  ·rcases hI.uq j' y hj' with rfl | ⟨_, hp⟩
   ·have := hI.at_
    rw [hj'] at this
    cases this
    cases hy
   ·cases y with
    | p n l r => cases hy
    | _ => cases hp
  ·exact absurd rfl (hU _ (List.mem_of_getElem? hj'))
 | _ => rfl
theorem fil_map_le {α β : Type} (f : α → β) (p : β → Bool) (q : α → Bool) (A : List α) (h : ∀ x ∈ A, p (f x) = true → q x = true) : ((A.map f).filter p).length ≤ (A.filter q).length := by
 induction A with
 | nil => exact Nat.le_refl _
 | cons x r ih =>
  have ih := ih (fun y hy => h y (List.mem_cons_of_mem _ hy))
  rw [List.map_cons]
  by_cases hp : p (f x) = true
  ·rw [List.filter_cons_of_pos hp, List.filter_cons_of_pos (h x (List.mem_cons_self ..) hp), List.length_cons, List.length_cons]
   omega
  ·rw [List.filter_cons_of_neg hp]
   by_cases hq : q x = true
   ·rw [List.filter_cons_of_pos hq, List.length_cons]
    omega
   ·rw [List.filter_cons_of_neg hq]
    exact ih
theorem FilW.nfin_le (h : FilW b s ls bs P G A k H F FL) : nfin A ≤ 2 * ls.length := by
 have hB : ∀ x ∈ A.filter (fun x => !x.1.fin), ∃ m g, P[x.2]? = some m ∧ m.live = true ∧ G[x.2]? = some g ∧ g.1 < ls.length := fun x hx => by
  have q := List.mem_filter.1 hx
  obtain ⟨j, hj⟩ := List.getElem?_of_mem q.1
  obtain ⟨y, i⟩ := x
  obtain ⟨m, hm, hl⟩ := h.inv.live_of hj (by simpa using q.2)
  have hil := (List.getElem?_eq_some_iff.1 hm).1
  obtain ⟨g, hg⟩ : ∃ g, G[i]? = some g := ⟨_, List.getElem?_eq_getElem (by have := h.gl; omega)⟩
  exact ⟨m, g, hm, hl, hg, h.tg g (List.mem_of_getElem? hg)⟩
 have h1 := own_len ls.length ((A.filter fun x => !x.1.fin).map fun x => (x.1, ((G[x.2]?).map (·.1)).getD 0)) (fun x hx => by
  obtain ⟨y, hy, rfl⟩ := List.mem_map.1 hx
  obtain ⟨m, g, _, _, hg, hgl⟩ := hB y hy
  show ((G[y.2]?).map (·.1)).getD 0 < _
  rw [hg]
  exact hgl) (fun i => by
  by_cases hi : i < ls.length
  ·have hll := h.ll
   obtain ⟨f, hf⟩ : ∃ f, FL[i]? = some f := ⟨_, List.getElem?_eq_getElem (by omega)⟩
   obtain ⟨l, hl⟩ : ∃ l, ls[i]? = some l := ⟨_, List.getElem?_eq_getElem hi⟩
   obtain ⟨c, hr⟩ := h.rel i f l hf hl
   refine Nat.le_trans (fil_map_le _ _ (fun x => x.2 == c) _ (fun x hx hp => ?_)) (Nat.le_trans ?_ (h.inv.two c))
   ·obtain ⟨m, g, hm, hlv, hg, _⟩ := hB x hx
    have e : ((G[x.2]?).map (·.1)).getD 0 = i := by simpa using hp
    rw [hg] at e
    have e : g.1 = i := e
    have hg' : G[x.2]? = some (i, g.2) := by rw [hg, ← e]
    have := (hr.live x.2 g.2 m hg' hm hlv).1
    simpa using this
   ·rw [List.filter_filter]
    exact fil_le _ _ (fun x hx => by simp at hx ⊢; exact hx.1) A
  ·rw [List.filter_eq_nil_iff.2 (fun x hx hp => by
    obtain ⟨y, hy, rfl⟩ := List.mem_map.1 hx
    obtain ⟨m, g, _, _, hg, hgl⟩ := hB y hy
    have e : ((G[y.2]?).map (·.1)).getD 0 = i := by simpa using hp
    rw [hg] at e
    have e : g.1 = i := e
    omega)]
   exact Nat.zero_le _)
 rw [List.length_map] at h1
 exact h1
theorem FilW.run1 (h : FilW b s ls bs P G A k H F FL) {i : Nat} {m : PutM} {t : FilT} (hf : FL[i]? = some (some m, t)) (hpre : m.pre = true) (hT : H + s ≤ 4611686018427387000) {x : Int × List Int} (h1 : t.left = [x]) (h0 : t.tries = 0) :
  ∃ (n : Nat) (bs' : List Int) (P' : List PutM) (A' : List (Slot × Nat)) (m' : PutM), Runs filC.mac ((some m, t) : Option PutM × FilT) bs n ((none, t.en m') : Option PutM × FilT) bs' ∧ n ≤ m.rem (ln A : Nat) ∧ FilW b s ls bs' P' G A' k H F (FL.set i (none, t.en m')) ∧ A'.take k = A.take k ∧ (t.en m').done = t.done ++ [m'.e] ∧ (m'.e = 0 → ∃ y, A'.getLast? = some y ∧ y.1.fin = true) := by
 obtain ⟨l, hl⟩ := h.at_ hf
 obtain ⟨c, hr⟩ := h.rel i _ l hf hl
 obtain ⟨g1, g2, g3⟩ := hr.cur m rfl
 have hlv := h.fin _ (List.mem_of_getElem? hf) m rfl
 obtain ⟨n, bs', A', m', hrun, hend, hn, hI, htk, hbe, hc⟩ := put_ends hT (m.rem (ln A : Nat)) h.inv g2 (.inl hpre) (Nat.le_refl _)
 have hen : t.en m' = { t with left := t.left.tail, done := t.done ++ [m'.e], places := if m'.e = 0 then t.places ++ [m'.rv] else t.places } := by
  unfold FilT.en
  rw [if_neg (fun q => by have := q.2; omega)]
 have hl0 : (t.en m').left = [] := by
  rw [hen]
  show t.left.tail = []
  rw [h1]
  rfl
 have hs := chain_runs filC (t := t) hrun hlv hend (fun m2 h => fil_sl _ m2 t h)
 have e : filC.settle (filC.fu t) ((some m', t) : Option PutM × FilT) = ((none, t.en m') : Option PutM × FilT) := by
  have h9 := fil_sd (t.left.length + 1) m' t hend
  exact h9.trans ((congrArg (filC.settle (t.left.length + 1)) (fil_mo_nil hl0)).trans (fil_s0 _ _))
 have hs' : Runs filC.mac ((some m, t) : Option PutM × FilT) bs n ((none, t.en m') : Option PutM × FilT) bs' := by
  rw [← e]
  exact hs
 have hr2 := (hr.turn m' hc).en hend
 have hil := (List.getElem?_eq_some_iff.1 hf).1
 have hcl := (List.getElem?_eq_some_iff.1 g2).1
 refine ⟨n, bs', P.set c m', A', m', hs', hn, ⟨hI, by rw [List.length_set]; exact h.ll, by rw [List.length_set]; exact h.gl, h.tg, h.lo, fun i' f' l' hf' hl' => ?_, fun f' hf' m2 hm2 => ?_⟩, htk, by rw [hen], fun he => hI.last (List.getElem?_set_self hcl) hend he hbe⟩
 ·by_cases e : i = i'
  ·subst e
   rw [List.getElem?_set_self hil] at hf'
   rw [hl] at hl'
   cases hf'
   cases hl'
   exact ⟨c, hr2⟩
  ·rw [List.getElem?_set_ne e] at hf'
   obtain ⟨c2, hr'⟩ := h.rel i' f' l' hf' hl'
   exact ⟨c2, hr'.other g1 e⟩
 ·rcases List.mem_or_eq_of_mem_set hf' with hf' | rfl
  ·exact h.fin f' hf' m2 hm2
  ·cases hm2
end Go.Proofs.YtggjhleomocojaaGreat
