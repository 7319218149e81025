/- A put alone behind others that stopped; rounds of gets and fixes over a ring on which nobody puts any more. No program in sight. Conditions: none. -/
import Derived.Test.YtggjhleomocojaaGreatVo
import Derived.Test.YtggjhleomocojaaGreatDd
namespace Go.Proofs.YtggjhleomocojaaGreat
open Go.RowKit
set_option linter.unusedVariables false
theorem put_rem {b s : Nat} {bs : List Int} {P : List PutM} {A A' : List (Slot × Nat)} {k H : Nat} {F : List (List Int)} (h : Inv b s bs P A k H F) {i : Nat} {m : PutM} (hi : P[i]? = some m) (hl : m.live = true) (hT : ln A ≤ 4611686018427387000) (hln : ln A' = ln A ∨ ∃ t pad, m.pc = .cs t pad ∧ (m.want.ans bs).d = true) :
  (m.step (m.want.ans bs)).rem (ln A' : Nat) < m.rem (ln A : Nat) := by
 have hp := h.pt i m hi
 have htl := h.tail
 have e9 : (256 : Int) ^ 8 = 18446744073709551616 := by decide
 have ea : (m.c.b + m.c.s).toNat = b + s := by rw [hp.cb, hp.cs]; omega
 rcases hln with hln | ⟨t, pad, e, hd⟩
 ·rw [hln]
  refine PutM.rem_step hl ?_ ?_
  ·intro e
   obtain ⟨c, pc, hd, pos, cl, e'⟩ := m
   subst e
   show rdN bs (c.b + c.s).toNat 8 = _
   rw [ea, htl]
  ·intro t pad e hd
   obtain ⟨c, pc, hd', pos, cl, e'⟩ := m
   subst e
   obtain ⟨_, _, _, _, _, _, ⟨t', rfl, ht'⟩, _⟩ := hp
   intro ht
   have ht : (t' : Int) = (ln A : Nat) := ht
   have hd : (rdN bs (c.b + c.s).toNat 8 == (t' : Int) % 256 ^ 8) = false := hd
   rw [ea, htl, e9, ht] at hd
   have : ((ln A : Nat) : Int) = ((ln A : Nat) : Int) % 18446744073709551616 := by omega
   rw [← this] at hd
   simp at hd
 ·unfold PutM.step PutM.rem
  rw [e]
  dsimp only
  rw [if_pos hd]
  by_cases hp : pad = 0
  ·rw [if_pos hp]
   show 3 + m.c.d.length / 8 < _
   omega
  ·rw [if_neg hp]
   show 4 + m.c.d.length / 8 < _
   omega
def PutM.behind (A : List (Slot × Nat)) (m : PutM) : Prop := m.pre = true ∨ (m.live = false ∧ m.e ≠ 0) ∨ m.pos + m.c.nd = (ln A : Nat)
theorem GRel.init1 {b s : Nat} {A : List (Slot × Nat)} {k H : Nat} {c : GetC} (hc : c.ok = true) (hb : c.b = b) (hs : c.s = s) : GRel b s A k H [] k (GetC.init c) := by
 have e : GetC.init c = ⟨c, .hd0, 0, 0, 0, [], false, 10⟩ := by unfold GetC.init; rw [hc]; rfl
 rw [e]
 exact ⟨hb, hs, hc, rfl, rfl, rfl, rfl, rfl, rfl⟩
structure Fixing (b s : Nat) (A0 : List (Slot × Nat)) (st : Prop) (bs : List Int) (out : List (Int × List Int)) (r : Nat) : Prop where
 ex : ∃ A k H, InvX True b s bs [] A k H [] ∧ mso 0 A = mso 0 A0 ∧ msgs A = msgs A0 ∧ ln A = ln A0 ∧ (∃ x, A.getLast? = some x ∧ x.1.fin = true) ∧ out = msgs (A.take k) ∧ (k = A.length ∨ nfin A + r ≤ nfin A0) ∧ (st → k = A.length ∨ ∃ x, A[k]? = some x ∧ x.1.fin = false)
end Go.Proofs.YtggjhleomocojaaGreat
namespace Go.Proofs.YtggjhleomocojaaGreat
open Go.RowKit
set_option linter.unusedVariables false
structure Pt where
 p : Int
 t : Int
 d : List Int
def Pt.lt (p : Pt) (q : Pt) : Bool := decide (q.p < p.p)
def insP (p : Pt) (out : List Pt) : List Pt := out.takeWhile p.lt ++ p :: out.dropWhile p.lt
def Srt (l : List Pt) : Prop := l.Pairwise fun a b => a.p < b.p
theorem insP_mem (p x : Pt) (out : List Pt) : x ∈ insP p out ↔ x = p ∨ x ∈ out := by
 have e : x ∈ out ↔ x ∈ out.takeWhile p.lt ++ out.dropWhile p.lt := by rw [List.takeWhile_append_dropWhile]
 unfold insP
 rw [e, List.mem_append, List.mem_append, List.mem_cons]
 constructor
 ·rintro (h | h | h)
  ·exact .inr (.inl h)
  ·exact .inl h
  ·exact .inr (.inr h)
 ·rintro (h | h | h)
  ·exact .inr (.inl h)
  ·exact .inl h
  ·exact .inr (.inr h)
theorem Srt.tail {a : Pt} {l : List Pt} (h : Srt (a :: l)) : Srt l ∧ ∀ x ∈ l, a.p < x.p := by
 have := List.pairwise_cons.1 h
 exact ⟨this.2, this.1⟩
theorem insP_srt (p : Pt) : ∀ {out : List Pt}, Srt out → (∀ q ∈ out, q.p ≠ p.p) → Srt (insP p out)
 | [], _, _ => List.pairwise_singleton _ _
 | a :: r, h, hn => by
  obtain ⟨h1, h2⟩ := h.tail
  by_cases ha : p.lt a = true
  ·have e : insP p (a :: r) = a :: insP p r := by
    unfold insP
    rw [List.takeWhile_cons_of_pos ha, List.dropWhile_cons_of_pos ha]
    rfl
   rw [e]
   have ha' : a.p < p.p := by simpa [Pt.lt] using ha
   refine List.pairwise_cons.2 ⟨fun x hx => ?_, insP_srt p h1 (fun q hq => hn q (List.mem_cons_of_mem _ hq))⟩
   rcases (insP_mem p x r).1 hx with rfl | hx
   ·exact ha'
   ·exact h2 x hx
  ·have e : insP p (a :: r) = p :: a :: r := by
    unfold insP
    rw [List.takeWhile_cons_of_neg ha, List.dropWhile_cons_of_neg ha]
    rfl
   rw [e]
   have ha' : ¬ a.p < p.p := by simpa [Pt.lt] using ha
   have hne := hn a (List.mem_cons_self ..)
   refine List.pairwise_cons.2 ⟨fun x hx => ?_, h⟩
   rcases List.mem_cons.1 hx with rfl | hx
   ·omega
   ·have := h2 x hx
    omega
theorem srt_ext : ∀ {l l' : List Pt}, Srt l → Srt l' → (∀ x, x ∈ l ↔ x ∈ l') → l = l'
 | [], [], _, _, _ => rfl
 | [], b :: r', _, _, h => by have := (h b).2 (List.mem_cons_self ..); cases this
 | a :: r, [], _, _, h => by have := (h a).1 (List.mem_cons_self ..); cases this
 | a :: r, b :: r', h1, h2, h => by
  obtain ⟨s1, l1⟩ := h1.tail
  obtain ⟨s2, l2⟩ := h2.tail
  have e : a = b := by
   rcases List.mem_cons.1 ((h a).1 (List.mem_cons_self ..)) with e | e
   ·exact e
   ·rcases List.mem_cons.1 ((h b).2 (List.mem_cons_self ..)) with e' | e'
    ·exact e'.symm
    ·have := l1 b e'
     have := l2 a e
     omega
  subst e
  congr 1
  refine srt_ext s1 s2 (fun x => ?_)
  constructor
  ·intro hx
   have h3 := l1 x hx
   rcases List.mem_cons.1 ((h x).1 (List.mem_cons_of_mem _ hx)) with e | e
   ·rw [e] at h3; omega
   ·exact e
  ·intro hx
   have h3 := l2 x hx
   rcases List.mem_cons.1 ((h x).2 (List.mem_cons_of_mem _ hx)) with e | e
   ·rw [e] at h3; omega
   ·exact e
def pts : Nat → List (Slot × Nat) → List Pt
 | _, [] => []
 | o, (.w t d n, _) :: r => ⟨(o : Nat), t, d⟩ :: pts (o + n) r
 | o, (x, _) :: r => pts (o + x.n) r
theorem pts_msgs : ∀ (A : List (Slot × Nat)) (o : Nat), (pts o A).map (fun x => (x.t, x.d)) = msgs A
 | [], _ => rfl
 | (.w t d n, _) :: r, o => by show (t, d) :: _ = (t, d) :: _; rw [pts_msgs r]
 | (.z n, _) :: r, o => pts_msgs r _
 | (.p n l q, _) :: r, o => pts_msgs r _
 | (.b t d n k, _) :: r, o => pts_msgs r _
theorem pts_mem : ∀ (A : List (Slot × Nat)) (o : Nat) (x : Pt), x ∈ pts o A ↔ ∃ j t d n i, A[j]? = some (.w t d n, i) ∧ x = ⟨(o + ln (A.take j) : Nat), t, d⟩
 | [], o, x => by simp [pts]
 | (y, i) :: r, o, x => by
  have ih := pts_mem r (o + y.n) x
  have step : (∃ j t d n i', r[j]? = some (Slot.w t d n, i') ∧ x = ⟨((o + y.n) + ln (r.take j) : Nat), t, d⟩) ↔ ∃ j t d n i', ((y, i) :: r)[j + 1]? = some (Slot.w t d n, i') ∧ x = ⟨(o + ln (((y, i) :: r).take (j + 1)) : Nat), t, d⟩ := by
   have e : ∀ j, ln (((y, i) :: r).take (j + 1)) = y.n + ln (r.take j) := fun j => rfl
   simp only [List.getElem?_cons_succ, e, Nat.add_assoc]
  cases y with
  | w t d n =>
   show x ∈ (⟨(o : Nat), t, d⟩ : Pt) :: pts (o + n) r ↔ _
   rw [List.mem_cons]
   constructor
   ·rintro (rfl | h)
    ·exact ⟨0, t, d, n, i, rfl, rfl⟩
    ·obtain ⟨j, t', d', n', i', h1, h2⟩ := step.1 (ih.1 h)
     exact ⟨j + 1, t', d', n', i', h1, h2⟩
   ·rintro ⟨j, t', d', n', i', h1, h2⟩
    cases j with
    | zero => cases h1; exact .inl h2
    | succ j => exact .inr (ih.2 (step.2 ⟨j, t', d', n', i', h1, h2⟩))
  | _ =>
   refine Iff.trans ih (Iff.trans step ?_)
   constructor
   ·rintro ⟨j, t', d', n', i', h1, h2⟩
    exact ⟨j + 1, t', d', n', i', h1, h2⟩
   ·rintro ⟨j, t', d', n', i', h1, h2⟩
    cases j with
    | zero => cases h1
    | succ j => exact ⟨j, t', d', n', i', h1, h2⟩
theorem pts_ge : ∀ (A : List (Slot × Nat)) (o : Nat), ∀ x ∈ pts o A, (o : Int) ≤ x.p := by
 intro A o x hx
 obtain ⟨j, t, d, n, i, _, rfl⟩ := (pts_mem A o x).1 hx
 show (o : Int) ≤ (o + ln (A.take j) : Nat)
 omega
theorem pts_srt : ∀ (A : List (Slot × Nat)) (o : Nat), (∀ x ∈ A, x.1.ok) → Srt (pts o A)
 | [], _, _ => List.Pairwise.nil
 | (.w t d n, i) :: r, o, h => by
  have hn : 8 ≤ n := (h (.w t d n, i) (List.mem_cons_self ..)).n0
  refine List.pairwise_cons.2 ⟨fun x hx => ?_, pts_srt r _ (fun y hy => h y (List.mem_cons_of_mem _ hy))⟩
  have := pts_ge r (o + n) x hx
  show (o : Int) < x.p
  omega
 | (.z n, _) :: r, o, h => pts_srt r _ (fun y hy => h y (List.mem_cons_of_mem _ hy))
 | (.p n l q, _) :: r, o, h => pts_srt r _ (fun y hy => h y (List.mem_cons_of_mem _ hy))
 | (.b t d n k, _) :: r, o, h => pts_srt r _ (fun y hy => h y (List.mem_cons_of_mem _ hy))
theorem Inv.pts_of {b s : Nat} {bs : List Int} {P : List PutM} {A : List (Slot × Nat)} {k H : Nat} {F : List (List Int)} (h : Inv b s bs P A k H F) (x : Pt) : x ∈ pts 0 A ↔ ∃ m ∈ P, m.e = 0 ∧ x = ⟨m.pos, m.c.typ, m.c.d⟩ := by
 rw [pts_mem]
 constructor
 ·rintro ⟨j, t, d, n, i, hj, rfl⟩
  obtain ⟨m, hm, he, rfl, rfl, hp⟩ := h.whose0 hj
  refine ⟨m, List.mem_of_getElem? hm, he, ?_⟩
  rw [hp, Nat.zero_add]
 ·rintro ⟨m, hm, he, rfl⟩
  obtain ⟨i, hi⟩ := List.getElem?_of_mem hm
  have hl : m.live = false := by
   cases hl : m.live with
   | false => rfl
   | true =>
    have := ((h.pt i m hi).lv hl).2
    omega
  obtain ⟨j, hj⟩ := h.has hi hl he
  obtain ⟨m', hm', _, _, _, hp⟩ := h.whose0 hj
  rw [hi] at hm'
  cases hm'
  exact ⟨j, _, _, _, i, hj, by rw [hp, Nat.zero_add]⟩
end Go.Proofs.YtggjhleomocojaaGreat
namespace Go.Proofs.YtggjhleomocojaaGreat
open Go.RowKit
set_option linter.unusedVariables false
def cnt0 (L : List Int) : Nat := (L.filter fun e => e == 0).length
theorem cnt0_snoc (L : List Int) (e : Int) : cnt0 (L ++ [e]) = cnt0 L + (if e = 0 then 1 else 0) := by
 unfold cnt0
 rw [List.filter_append, List.length_append]
 congr 1
 by_cases h : e = 0
 ·simp [h]
 ·simp [h]
structure FR (b s : Int) (P : List PutM) (G : List (Nat × Nat)) (i : Nat) (l : List (Int × List Int)) (c : Nat) (f : Option PutM × FilT) : Prop where
 gl : G.length = P.length
 hb : f.2.b = b
 hs : f.2.s = s
 left : f.2.left = l.drop f.2.done.length
 nn : f.2.done.length ≤ l.length
 pl : f.2.places.length = cnt0 f.2.done
 cur : ∀ m, f.1 = some m → G[c]? = some (i, f.2.done.length) ∧ P[c]? = some m ∧ f.2.done.length < l.length
 live : ∀ (j n : Nat) (m : PutM), G[j]? = some (i, n) → P[j]? = some m → m.live = true → j = c ∧ f.1 = some m
 cs : ∀ (j n : Nat) (m : PutM), G[j]? = some (i, n) → P[j]? = some m → ∃ x, l[n]? = some x ∧ m.c = ⟨b, s, x.1, x.2⟩
 okj : ∀ (j n : Nat) (m : PutM), G[j]? = some (i, n) → P[j]? = some m → m.e = 0 → ¬ (j = c ∧ f.1.isSome = true) → f.2.done[n]? = some 0 ∧ f.2.places[cnt0 (f.2.done.take n)]? = some m.pos
 ok : ∀ n : Nat, f.2.done[n]? = some 0 → ∃ (j : Nat) (m : PutM), G[j]? = some (i, n) ∧ P[j]? = some m ∧ m.e = 0 ∧ f.2.places[cnt0 (f.2.done.take n)]? = some m.pos
variable {b s : Int} {P : List PutM} {G : List (Nat × Nat)} {i : Nat} {l : List (Int × List Int)} {c : Nat}
theorem FR.other {f : Option PutM × FilT} (h : FR b s P G i l c f) {j0 i0 n0 : Nat} {m' : PutM} (hj : G[j0]? = some (i0, n0)) (hne : i0 ≠ i) : FR b s (P.set j0 m') G i l c f := by
 have key : ∀ (j n : Nat), G[j]? = some (i, n) → (P.set j0 m')[j]? = P[j]? := fun j n hg => by
  rw [List.getElem?_set_ne]
  rintro rfl
  rw [hj] at hg
  cases hg
  exact hne rfl
 refine ⟨by rw [List.length_set]; exact h.gl, h.hb, h.hs, h.left, h.nn, h.pl, fun m hm => ?_, fun j n m hg hp => ?_, fun j n m hg hp => ?_, fun j n m hg hp => ?_, fun n hn => ?_⟩
 ·obtain ⟨h1, h2, h3⟩ := h.cur m hm
  exact ⟨h1, by rw [key _ _ h1]; exact h2, h3⟩
 ·rw [key _ _ hg] at hp
  exact h.live j n m hg hp
 ·rw [key _ _ hg] at hp
  exact h.cs j n m hg hp
 ·rw [key _ _ hg] at hp
  exact h.okj j n m hg hp
 ·obtain ⟨j, m, h1, h2, h3⟩ := h.ok n hn
  exact ⟨j, m, h1, by rw [key _ _ h1]; exact h2, h3⟩
theorem FR.more {f : Option PutM × FilT} (h : FR b s P G i l c f) (E : List PutM) (GE : List (Nat × Nat)) (hl : GE.length = E.length) (hne : ∀ g ∈ GE, g.1 ≠ i) : FR b s (P ++ E) (G ++ GE) i l c f := by
 have hgl := h.gl
 have key : ∀ (j n : Nat), (G ++ GE)[j]? = some (i, n) → G[j]? = some (i, n) ∧ (P ++ E)[j]? = P[j]? := fun j n hg => by
  by_cases hj : j < G.length
  ·rw [List.getElem?_append_left hj] at hg
   exact ⟨hg, List.getElem?_append_left (by omega)⟩
  ·rw [List.getElem?_append_right (by omega)] at hg
   exact absurd rfl (hne _ (List.mem_of_getElem? hg))
 have old : ∀ (j : Nat) (g : Nat × Nat), G[j]? = some g → (G ++ GE)[j]? = some g ∧ (P ++ E)[j]? = P[j]? := fun j g hg => by
  have hj := (List.getElem?_eq_some_iff.1 hg).1
  exact ⟨by rw [List.getElem?_append_left hj]; exact hg, List.getElem?_append_left (by omega)⟩
 refine ⟨by rw [List.length_append, List.length_append]; omega, h.hb, h.hs, h.left, h.nn, h.pl, fun m hm => ?_, fun j n m hg hp => ?_, fun j n m hg hp => ?_, fun j n m hg hp => ?_, fun n hn => ?_⟩
 ·obtain ⟨h1, h2, h3⟩ := h.cur m hm
  exact ⟨(old _ _ h1).1, by rw [(old _ _ h1).2]; exact h2, h3⟩
 ·obtain ⟨k1, k2⟩ := key j n hg
  rw [k2] at hp
  exact h.live j n m k1 hp
 ·obtain ⟨k1, k2⟩ := key j n hg
  rw [k2] at hp
  exact h.cs j n m k1 hp
 ·obtain ⟨k1, k2⟩ := key j n hg
  rw [k2] at hp
  exact h.okj j n m k1 hp
 ·obtain ⟨j, m, h1, h2, h3⟩ := h.ok n hn
  exact ⟨j, m, (old _ _ h1).1, by rw [(old _ _ h1).2]; exact h2, h3⟩
variable {t : FilT}
theorem FR.turn {m : PutM} (h : FR b s P G i l c (some m, t)) (m' : PutM) (hc : m'.c = m.c) : FR b s (P.set c m') G i l c (some m', t) := by
 obtain ⟨h1, h2, h3⟩ := h.cur m rfl
 have hcl := (List.getElem?_eq_some_iff.1 h2).1
 refine ⟨by rw [List.length_set]; exact h.gl, h.hb, h.hs, h.left, h.nn, h.pl, fun m2 hm => ?_, fun j n m2 hg hp hl => ?_, fun j n m2 hg hp => ?_, fun j n m2 hg hp he hn => ?_, fun n hn => ?_⟩
 ·cases hm
  exact ⟨h1, List.getElem?_set_self hcl, h3⟩
 ·by_cases e : c = j
  ·subst e
   rw [List.getElem?_set_self hcl] at hp
   exact ⟨rfl, hp⟩
  ·rw [List.getElem?_set_ne e] at hp
   exact absurd (h.live j n m2 hg hp hl).1 (fun q => e q.symm)
 ·by_cases e : c = j
  ·subst e
   rw [List.getElem?_set_self hcl] at hp
   cases hp
   rw [hc]
   exact h.cs c n m hg h2
  ·rw [List.getElem?_set_ne e] at hp
   exact h.cs j n m2 hg hp
 ·by_cases e : c = j
  ·exact absurd ⟨e.symm, rfl⟩ hn
  ·rw [List.getElem?_set_ne e] at hp
   exact h.okj j n m2 hg hp he (fun q => e q.1.symm)
 ·have hn : t.done[n]? = some 0 := hn
  obtain ⟨j, m2, q1, q2, q3⟩ := h.ok n hn
  have e : c ≠ j := by
   rintro rfl
   rw [h1] at q1
   have : t.done.length = n := congrArg (fun x => x.2) (Option.some.inj q1)
   have := (List.getElem?_eq_some_iff.1 hn).1
   omega
  exact ⟨j, m2, q1, by rw [List.getElem?_set_ne e]; exact q2, q3⟩
theorem FR.en {m : PutM} (h : FR b s P G i l c (some m, t)) (hd : m.live = false) : FR b s P G i l c (none, t.en m) := by
 obtain ⟨h1, h2, h3⟩ := h.cur m rfl
 dsimp only at h1 h3
 have hlv : ∀ (j n : Nat) (m2 : PutM), G[j]? = some (i, n) → P[j]? = some m2 → m2.live = true → False := fun j n m2 hg hp hl => by
  have := (h.live j n m2 hg hp hl).2
  cases this
  rw [hd] at hl
  cases hl
 unfold FilT.en
 split
 case isTrue hc =>
  refine ⟨h.gl, h.hb, h.hs, h.left, h.nn, h.pl, fun m2 hm => (by cases hm), fun j n m2 hg hp hl => (hlv j n m2 hg hp hl).elim, h.cs, fun j n m2 hg hp he _ => ?_, h.ok⟩
  by_cases e : j = c
  ·subst e
   rw [h2] at hp
   cases hp
   have := hc.1
   omega
  ·exact h.okj j n m2 hg hp he (fun q => e q.1)
 case isFalse hc =>
  have hlt : t.left = l.drop t.done.length := h.left
  have hrv : m.e = 0 → [m.rv][0]? = some m.pos := fun he => by unfold PutM.rv; rw [if_pos he]; rfl
  have hdl : (t.done ++ [m.e]).length = t.done.length + 1 := by simp
  have hpl : t.places.length = cnt0 t.done := h.pl
  have htk : ∀ n : Nat, n ≤ t.done.length → (t.done ++ [m.e]).take n = t.done.take n := fun n hn => List.take_append_of_le_length hn
  have hat : ∀ n : Nat, n < t.done.length → (t.done ++ [m.e])[n]? = t.done[n]? := fun n hn => List.getElem?_append_left hn
  have hcn : ∀ n : Nat, t.done[n]? = some 0 → cnt0 (t.done.take n) < cnt0 t.done := fun n hn => by
   have h9 := (List.getElem?_eq_some_iff.1 hn).1
   have h8 : t.done = t.done.take n ++ 0 :: t.done.drop (n + 1) := by
    have := drop_at hn
    rw [← this, List.take_append_drop]
   conv => rhs; rw [h8]
   unfold cnt0
   rw [List.filter_append, List.length_append]
   simp
  have hpa : ∀ (k : Nat), k < cnt0 t.done → (if m.e = 0 then t.places ++ [m.rv] else t.places)[k]? = t.places[k]? := fun k hk => by
   split
   ·exact List.getElem?_append_left (by omega)
   ·rfl
  refine ⟨h.gl, h.hb, h.hs, ?_, ?_, ?_, fun m2 hm => (by cases hm), fun j n m2 hg hp hl => (hlv j n m2 hg hp hl).elim, h.cs, fun j n m2 hg hp he _ => ?_, fun n hn => ?_⟩
  ·show t.left.tail = l.drop (t.done ++ [m.e]).length
   rw [hlt, hdl, List.tail_drop]
  ·show (t.done ++ [m.e]).length ≤ l.length
   omega
  ·show (if m.e = 0 then t.places ++ [m.rv] else t.places).length = cnt0 (t.done ++ [m.e])
   rw [cnt0_snoc]
   split
   ·rw [List.length_append, hpl]; rfl
   ·rw [hpl]; rfl
  ·show (t.done ++ [m.e])[n]? = some 0 ∧ (if m.e = 0 then t.places ++ [m.rv] else t.places)[cnt0 ((t.done ++ [m.e]).take n)]? = some m2.pos
   by_cases e : j = c
   ·subst e
    rw [h2] at hp
    cases hp
    rw [h1] at hg
    have hn : t.done.length = n := congrArg (fun x => x.2) (Option.some.inj hg)
    subst hn
    rw [htk _ (Nat.le_refl _), List.take_of_length_le (Nat.le_refl _), if_pos he, List.getElem?_append_right (Nat.le_refl _), Nat.sub_self, ← hpl, List.getElem?_append_right (Nat.le_refl _), Nat.sub_self, he]
    exact ⟨rfl, hrv he⟩
   ·obtain ⟨q1, q2⟩ := h.okj j n m2 hg hp he (fun q => e q.1)
    have q1 : t.done[n]? = some 0 := q1
    have hnl := (List.getElem?_eq_some_iff.1 q1).1
    rw [hat n hnl, htk n (by omega), hpa _ (hcn n q1)]
    exact ⟨q1, q2⟩
  ·have hn : (t.done ++ [m.e])[n]? = some 0 := hn
   show ∃ (j : Nat) (m2 : PutM), G[j]? = some (i, n) ∧ P[j]? = some m2 ∧ m2.e = 0 ∧ (if m.e = 0 then t.places ++ [m.rv] else t.places)[cnt0 ((t.done ++ [m.e]).take n)]? = some m2.pos
   by_cases hnl : n < t.done.length
   ·rw [hat n hnl] at hn
    obtain ⟨j, m2, q1, q2, q3, q4⟩ := h.ok n hn
    exact ⟨j, m2, q1, q2, q3, by rw [htk n (by omega), hpa _ (hcn n hn)]; exact q4⟩
   ·rw [List.getElem?_append_right (by omega)] at hn
    have e : n - t.done.length = 0 := by
     have := (List.getElem?_eq_some_iff.1 hn).1
     simp at this
     omega
    rw [e] at hn
    have he : m.e = 0 := by simpa using hn
    obtain rfl : n = t.done.length := by omega
    refine ⟨c, m, h1, h2, he, ?_⟩
    rw [htk _ (Nat.le_refl _), List.take_of_length_le (Nat.le_refl _), if_pos he, ← hpl, List.getElem?_append_right (Nat.le_refl _), Nat.sub_self]
    exact hrv he
theorem FR.mo (h : FR b s P G i l c (none, t)) {x : Int × List Int} {r : List (Int × List Int)} (hl : t.left = x :: r) : FR b s (P ++ [PutC.init ⟨b, s, x.1, x.2⟩]) (G ++ [(i, t.done.length)]) i l P.length (some (PutC.init ⟨b, s, x.1, x.2⟩), t) := by
 have hgl := h.gl
 have hlt : t.left = l.drop t.done.length := h.left
 have hx : l[t.done.length]? = some x := by
  have : (l.drop t.done.length)[0]? = some x := by rw [← hlt, hl]; rfl
  rw [List.getElem?_drop] at this
  exact this
 have key : ∀ (j : Nat) (g : Nat × Nat) (m : PutM), (G ++ [(i, t.done.length)])[j]? = some g → (P ++ [PutC.init ⟨b, s, x.1, x.2⟩])[j]? = some m → (j < P.length ∧ G[j]? = some g ∧ P[j]? = some m) ∨ (j = P.length ∧ g = (i, t.done.length) ∧ m = PutC.init ⟨b, s, x.1, x.2⟩) := fun j g m hg hp => by
  by_cases hj : j < P.length
  ·rw [List.getElem?_append_left (by omega)] at hg
   rw [List.getElem?_append_left hj] at hp
   exact .inl ⟨hj, hg, hp⟩
  ·rw [List.getElem?_append_right (by omega)] at hp
   have e : j - P.length = 0 := by
    have := (List.getElem?_eq_some_iff.1 hp).1
    simp at this
    omega
   rw [List.getElem?_append_right (by omega), show j - G.length = 0 by omega] at hg
   rw [e] at hp
   refine .inr ⟨by omega, ?_, ?_⟩
   ·simpa using hg.symm
   ·simpa using hp.symm
 have hne : (PutC.init ⟨b, s, x.1, x.2⟩).e ≠ 0 := by
  show PutC.e0 _ ≠ 0
  unfold PutC.e0
  split
  ·split <;> decide
  ·decide
 refine ⟨by simp; omega, h.hb, h.hs, h.left, h.nn, h.pl, fun m hm => ?_, fun j n m hg hp hv => ?_, fun j n m hg hp => ?_, fun j n m hg hp he hn => ?_, fun n hn => ?_⟩
 ·cases hm
  refine ⟨?_, ?_, (List.getElem?_eq_some_iff.1 hx).1⟩
  ·rw [← hgl, List.getElem?_append_right (Nat.le_refl _), Nat.sub_self]
   rfl
  ·rw [List.getElem?_append_right (Nat.le_refl _), Nat.sub_self]
   rfl
 ·rcases key j _ m hg hp with ⟨hj, q1, q2⟩ | ⟨rfl, _, rfl⟩
  ·have := (h.live j n m q1 q2 hv).2
   cases this
  ·exact ⟨rfl, rfl⟩
 ·rcases key j _ m hg hp with ⟨hj, q1, q2⟩ | ⟨rfl, e, rfl⟩
  ·exact h.cs j n m q1 q2
  ·cases e
   exact ⟨x, hx, rfl⟩
 ·rcases key j _ m hg hp with ⟨hj, q1, q2⟩ | ⟨rfl, e, rfl⟩
  ·exact h.okj j n m q1 q2 he (fun q => by cases q.2)
  ·exact absurd he hne
 ·obtain ⟨j, m, q1, q2, q3⟩ := h.ok n hn
  have hj := (List.getElem?_eq_some_iff.1 q2).1
  exact ⟨j, m, by rw [List.getElem?_append_left (by omega)]; exact q1, by rw [List.getElem?_append_left hj]; exact q2, q3⟩
theorem fil_s0 (n : Nat) (t : FilT) : filC.settle n ((none, t) : Option PutM × FilT) = ((none, t) : Option PutM × FilT) := by cases n <;> rfl
theorem fil_sl (n : Nat) (m : PutM) (t : FilT) (h : m.live = true) : filC.settle (n + 1) ((some m, t) : Option PutM × FilT) = ((some m, t) : Option PutM × FilT) := if_pos h
theorem fil_sd (n : Nat) (m : PutM) (t : FilT) (h : m.live = false) : filC.settle (n + 1) ((some m, t) : Option PutM × FilT) = filC.settle n (filC.mo (t.en m)) := if_neg (by show ¬ m.live = true; rw [h]; decide)
theorem FR.settle : ∀ (n : Nat) {P : List PutM} {G : List (Nat × Nat)} {c : Nat} {f : Option PutM × FilT}, FR b s P G i l c f → ∃ E GE c', FR b s (P ++ E) (G ++ GE) i l c' (filC.settle n f) ∧ GE.length = E.length ∧ (∀ g ∈ GE, g.1 = i) ∧ ∀ m ∈ E, ∃ x ∈ l, m = PutC.init ⟨b, s, x.1, x.2⟩ := by
 intro n
 induction n with
 | zero => exact fun {P G c f} h => ⟨[], [], c, by rw [List.append_nil, List.append_nil]; exact h, rfl, fun g hg => (by cases hg), fun m hm => (by cases hm)⟩
 | succ n ih =>
  intro P G c f h
  obtain ⟨cur, t⟩ := f
  cases cur with
  | none => exact ⟨[], [], c, by rw [fil_s0, List.append_nil, List.append_nil]; exact h, rfl, fun g hg => (by cases hg), fun m hm => (by cases hm)⟩
  | some m =>
   by_cases hv : m.live = true
   ·exact ⟨[], [], c, by rw [fil_sl n m t hv, List.append_nil, List.append_nil]; exact h, rfl, fun g hg => (by cases hg), fun m hm => (by cases hm)⟩
   ·have hv' : m.live = false := by simpa using hv
    have e := fil_sd n m t hv'
    have h1 := h.en hv'
    rw [e]
    cases hl : (t.en m).left with
    | nil =>
     rw [fil_mo_nil hl]
     exact ih h1
    | cons x r =>
     rw [fil_mo_cons hl, h1.hb, h1.hs]
     obtain ⟨E, GE, c', q1, q2, q3, q4⟩ := ih (h1.mo hl)
     refine ⟨PutC.init ⟨b, s, x.1, x.2⟩ :: E, (i, (t.en m).done.length) :: GE, c', ?_, ?_, ?_, ?_⟩
     ·rw [List.append_assoc, List.append_assoc] at q1
      exact q1
     ·simp [q2]
     ·intro g hg
      rcases List.mem_cons.1 hg with rfl | hg
      ·rfl
      ·exact q3 g hg
     ·intro m2 hm
      rcases List.mem_cons.1 hm with rfl | hm
      ·refine ⟨x, ?_, rfl⟩
       have hlt : (t.en m).left = l.drop (t.en m).done.length := h1.left
       rw [hl] at hlt
       exact List.mem_of_mem_drop (hlt ▸ List.mem_cons_self ..)
      ·exact q4 m2 hm
end Go.Proofs.YtggjhleomocojaaGreat
namespace Go.Proofs.YtggjhleomocojaaGreat
open Go.RowKit
set_option linter.unusedVariables false
variable {b s : Nat} {bs : List Int} {P : List PutM} {A : List (Slot × Nat)} {k H : Nat} {F : List (List Int)}
theorem Inv.more1 (h : Inv b s bs P A k H F) (c : PutC) (hb : c.b = b) (hs : c.s = s) (hd : IsB c.d) (ht : c.typ ≤ 2147483647) : Inv b s bs (P ++ [PutC.init c]) A k H F := by
 refine ⟨h.so, h.b8, h.rg, h.kl, h.fk, h.h8, h.ok, h.fn, fun _ x hx => by have := h.ow id x hx; rw [List.length_append]; omega, h.cp, fun i m hi => ?_⟩
 by_cases hl : i < P.length
 ·rw [List.getElem?_append_left hl] at hi
  exact h.pt i m hi
 ·rw [List.getElem?_append_right (by omega)] at hi
  have e : i - P.length = 0 := by
   have := (List.getElem?_eq_some_iff.1 hi).1
   simp at this
   omega
  rw [e] at hi
  simp at hi
  subst hi
  exact PRel.init hb hs hd ht (fun x hx e => by have := h.ow id x hx; omega)
theorem Inv.mores : ∀ (E : List PutM) {P : List PutM}, Inv b s bs P A k H F → (∀ m ∈ E, ∃ c : PutC, m = PutC.init c ∧ c.b = b ∧ c.s = s ∧ IsB c.d ∧ c.typ ≤ 2147483647) → Inv b s bs (P ++ E) A k H F
 | [], P, h, _ => by rw [List.append_nil]; exact h
 | m :: E, P, h, hE => by
  obtain ⟨c, rfl, h1, h2, h3, h4⟩ := hE m (List.mem_cons_self ..)
  have := Inv.mores E (h.more1 c h1 h2 h3 h4) (fun m hm => hE m (List.mem_cons_of_mem _ hm))
  rw [List.append_assoc] at this
  exact this
structure FilW (b s : Nat) (ls : List (List (Int × List Int))) (bs : List Int) (P : List PutM) (G : List (Nat × Nat)) (A : List (Slot × Nat)) (k H : Nat) (F : List (List Int)) (FL : List (Option PutM × FilT)) : Prop where
 inv : Inv b s bs P A k H F
 ll : FL.length = ls.length
 gl : G.length = P.length
 tg : ∀ g ∈ G, g.1 < ls.length
 lo : ∀ l ∈ ls, ∀ x ∈ l, IsB x.2 ∧ x.1 ≤ 2147483647
 rel : ∀ (i : Nat) (f : Option PutM × FilT) (l : List (Int × List Int)), FL[i]? = some f → ls[i]? = some l → ∃ c, FR b s P G i l c f
 fin : ∀ f ∈ FL, ∀ m, f.1 = some m → m.live = true
variable {ls : List (List (Int × List Int))} {G : List (Nat × Nat)} {FL : List (Option PutM × FilT)}
theorem FilW.at_ (h : FilW b s ls bs P G A k H F FL) {i : Nat} {f : Option PutM × FilT} (hf : FL[i]? = some f) : ∃ l, ls[i]? = some l := by
 have := (List.getElem?_eq_some_iff.1 hf).1
 have := h.ll
 exact ⟨_, List.getElem?_eq_getElem (by omega)⟩
def filNx (m : PutM) (t : FilT) : Option PutM × FilT := filC.settle (t.left.length + 2) ((some m, t) : Option PutM × FilT)
def okP (l : List (Int × List Int)) (t : FilT) : List Pt := (List.range t.done.length).filterMap fun n => if t.done[n]? = some 0 then some ⟨t.places.getD (cnt0 (t.done.take n)) 0, (l.getD n (0, [])).1, (l.getD n (0, [])).2⟩ else none
theorem okP_mem {l : List (Int × List Int)} {t : FilT} {x : Pt} : x ∈ okP l t ↔ ∃ n, t.done[n]? = some 0 ∧ x = ⟨t.places.getD (cnt0 (t.done.take n)) 0, (l.getD n (0, [])).1, (l.getD n (0, [])).2⟩ := by
 unfold okP
 rw [List.mem_filterMap]
 constructor
 ·rintro ⟨n, hn, h⟩
  by_cases hc : t.done[n]? = some 0
  ·rw [if_pos hc] at h
   exact ⟨n, hc, (Option.some.inj h).symm⟩
  ·rw [if_neg hc] at h
   cases h
 ·rintro ⟨n, hc, rfl⟩
  exact ⟨n, List.mem_range.2 (List.getElem?_eq_some_iff.1 hc).1, if_pos hc⟩
theorem FilW.okAt (h : FilW b s ls bs P G A k H F FL) {i n : Nat} {f : Option PutM × FilT} {l : List (Int × List Int)} (hf : FL[i]? = some f) (hl : ls[i]? = some l) (hn : f.2.done[n]? = some 0) :
  ∃ (j : Nat) (m : PutM), G[j]? = some (i, n) ∧ P[j]? = some m ∧ m.e = 0 ∧ (⟨f.2.places.getD (cnt0 (f.2.done.take n)) 0, (l.getD n (0, [])).1, (l.getD n (0, [])).2⟩ : Pt) = ⟨m.pos, m.c.typ, m.c.d⟩ := by
 obtain ⟨c, hr⟩ := h.rel i f l hf hl
 obtain ⟨j, m, q1, q2, q3, q4⟩ := hr.ok n hn
 obtain ⟨x, hx, hc⟩ := hr.cs j n m q1 q2
 refine ⟨j, m, q1, q2, q3, ?_⟩
 rw [List.getD_eq_getElem?_getD, q4, List.getD_eq_getElem?_getD, hx, hc]
 rfl
theorem FilW.pts_of (h : FilW b s ls bs P G A k H F FL) (x : Pt) :
  x ∈ pts 0 A ↔ ∃ (i : Nat) (f : Option PutM × FilT) (l : List (Int × List Int)), FL[i]? = some f ∧ ls[i]? = some l ∧ x ∈ okP l f.2 := by
 rw [h.inv.pts_of]
 constructor
 ·rintro ⟨m, hm, he, rfl⟩
  obtain ⟨j, hj⟩ := List.getElem?_of_mem hm
  have hjl := (List.getElem?_eq_some_iff.1 hj).1
  obtain ⟨⟨i, n⟩, hg⟩ : ∃ g, G[j]? = some g := ⟨_, List.getElem?_eq_getElem (by have := h.gl; omega)⟩
  have hi := h.tg _ (List.mem_of_getElem? hg)
  have hll := h.ll
  obtain ⟨f, hf⟩ : ∃ f, FL[i]? = some f := ⟨_, List.getElem?_eq_getElem (by omega)⟩
  obtain ⟨l, hl⟩ : ∃ l, ls[i]? = some l := ⟨_, List.getElem?_eq_getElem hi⟩
  obtain ⟨c, hr⟩ := h.rel i f l hf hl
  refine ⟨i, f, l, hf, hl, okP_mem.2 ⟨n, ?_⟩⟩
  obtain ⟨q1, q2⟩ := hr.okj j n m hg hj he (fun q => by
   obtain ⟨rfl, q⟩ := q
   obtain ⟨m', hm'⟩ := Option.isSome_iff_exists.1 q
   have h2 := (hr.cur m' hm').2.1
   rw [hj] at h2
   cases h2
   have := ((h.inv.pt j m hj).lv (h.fin f (List.mem_of_getElem? hf) m hm')).2
   omega)
  obtain ⟨x, hx, hc⟩ := hr.cs j n m hg hj
  refine ⟨q1, ?_⟩
  rw [List.getD_eq_getElem?_getD, q2, List.getD_eq_getElem?_getD, hx, hc]
  rfl
 ·rintro ⟨i, f, l, hf, hl, hx⟩
  obtain ⟨n, hn, rfl⟩ := okP_mem.1 hx
  obtain ⟨j, m, q1, q2, q3, q4⟩ := h.okAt hf hl hn
  exact ⟨m, List.mem_of_getElem? q2, q3, q4⟩
theorem FilW.apart (h : FilW b s ls bs P G A k H F FL) {j j' : Nat} {m m' : PutM} (h1 : P[j]? = some m) (h2 : P[j']? = some m') (e1 : m.e = 0) (e2 : m'.e = 0) (hp : m.pos = m'.pos) : j = j' := by
 have dead : ∀ {j : Nat} {m : PutM}, P[j]? = some m → m.e = 0 → m.live = false := fun {j m} hj he => by
  cases hl : m.live with
  | false => rfl
  | true =>
   have := ((h.inv.pt j m hj).lv hl).2
   omega
 obtain ⟨a, ha⟩ := h.inv.has h1 (dead h1 e1) e1
 obtain ⟨a', ha'⟩ := h.inv.has h2 (dead h2 e2) e2
 obtain ⟨_, g1, _, _, _, q1⟩ := h.inv.whose0 ha
 obtain ⟨_, g2, _, _, _, q2⟩ := h.inv.whose0 ha'
 rw [h1] at g1
 rw [h2] at g2
 cases g1
 cases g2
 have e : ln (A.take a) = ln (A.take a') := by omega
 have hal := (List.getElem?_eq_some_iff.1 ha).1
 have hal' := (List.getElem?_eq_some_iff.1 ha').1
 have : a = a' := by
  rcases Nat.le_total a a' with q | q
  ·exact ln_inj h.inv.ok q (by omega) e
  ·exact (ln_inj h.inv.ok q (by omega) e.symm).symm
 subst this
 rw [ha] at ha'
 exact congrArg (fun x => x.2) (Option.some.inj ha')
theorem fold_ins : ∀ (R out : List Pt), Srt out → R.Pairwise (fun a b => a.p ≠ b.p) → (∀ x ∈ R, ∀ y ∈ out, y.p ≠ x.p) → Srt (R.foldl (fun o p => insP p o) out) ∧ ∀ x, x ∈ R.foldl (fun o p => insP p o) out ↔ x ∈ R ∨ x ∈ out
 | [], out, h, _, _ => ⟨h, fun x => by simp⟩
 | a :: R, out, h, hR, hd => by
  obtain ⟨r1, r2⟩ := List.pairwise_cons.1 hR
  obtain ⟨q1, q2⟩ := fold_ins R (insP a out) (insP_srt a h (fun q hq => hd a (List.mem_cons_self ..) q hq)) r2 (fun x hx y hy => by
   rcases (insP_mem a y out).1 hy with rfl | hy
   ·exact r1 x hx
   ·exact hd x (List.mem_cons_of_mem _ hx) y hy)
  refine ⟨q1, fun x => ?_⟩
  show x ∈ R.foldl (fun o p => insP p o) (insP a out) ↔ _
  rw [q2, insP_mem, List.mem_cons]
  constructor
  ·rintro (h | h | h)
   ·exact .inl (.inr h)
   ·exact .inl (.inl h)
   ·exact .inr h
  ·rintro ((h | h) | h)
   ·exact .inr (.inl h)
   ·exact .inl h
   ·exact .inr (.inr h)
def okPts (Z : List (FilT × List (Int × List Int))) : List Pt := Z.flatMap fun z => okP z.2 z.1
def allP (Z : List (FilT × List (Int × List Int))) : List Pt := (okPts Z).foldl (fun o p => insP p o) []
def zipF (FL : List (Option PutM × FilT)) (ls : List (List (Int × List Int))) : List (FilT × List (Int × List Int)) := (FL.map (·.2)).zip ls
theorem zipF_at {i : Nat} {z : FilT × List (Int × List Int)} (h : (zipF FL ls)[i]? = some z) : ∃ f, FL[i]? = some f ∧ f.2 = z.1 ∧ ls[i]? = some z.2 := by
 unfold zipF at h
 rw [List.getElem?_zip_eq_some] at h
 obtain ⟨h1, h2⟩ := h
 rw [List.getElem?_map] at h1
 obtain ⟨f, hf, e⟩ := Option.map_eq_some_iff.1 h1
 exact ⟨f, hf, e, h2⟩
theorem FilW.all (h : FilW b s ls bs P G A k H F FL) : allP (zipF FL ls) = pts 0 A := by
 have hpw : (okPts (zipF FL ls)).Pairwise (fun a b => a.p ≠ b.p) := by
  unfold okPts
  have two : ∀ {i i' n n' : Nat} {f f' : Option PutM × FilT} {l l' : List (Int × List Int)}, FL[i]? = some f → ls[i]? = some l → FL[i']? = some f' → ls[i']? = some l' → f.2.done[n]? = some 0 → f'.2.done[n']? = some 0 → (i ≠ i' ∨ n ≠ n') → f.2.places.getD (cnt0 (f.2.done.take n)) 0 ≠ f'.2.places.getD (cnt0 (f'.2.done.take n')) 0 := by
   intro i i' n n' f f' l l' h1 h2 h3 h4 h5 h6 hne e
   obtain ⟨j, m, q1, q2, q3, q4⟩ := h.okAt h1 h2 h5
   obtain ⟨j', m', p1, p2, p3, p4⟩ := h.okAt h3 h4 h6
   have e1 := congrArg Pt.p q4
   have e2 := congrArg Pt.p p4
   dsimp only at e1 e2
   have := h.apart q2 p2 q3 p3 (by omega)
   subst this
   rw [q1] at p1
   have p1 := Option.some.inj p1
   have g1 : i = i' := congrArg (fun x => x.1) p1
   have g2 : n = n' := congrArg (fun x => x.2) p1
   rcases hne with hne | hne
   ·exact hne g1
   ·exact hne g2
  rw [List.pairwise_flatMap]
  constructor
  ·intro z hz
   obtain ⟨i, hi⟩ := List.getElem?_of_mem hz
   obtain ⟨f, hf, e, hl⟩ := zipF_at hi
   obtain ⟨t, l⟩ := z
   dsimp only at e hl ⊢
   subst e
   unfold okP
   rw [List.pairwise_filterMap]
   refine List.Pairwise.imp ?_ (List.pairwise_lt_range (n := f.2.done.length))
   intro n n' hlt x hx y hy
   by_cases c1 : f.2.done[n]? = some 0
   ·by_cases c2 : f.2.done[n']? = some 0
    ·rw [if_pos c1] at hx
     rw [if_pos c2] at hy
     cases hx
     cases hy
     exact two hf hl hf hl c1 c2 (.inr (by omega))
    ·rw [if_neg c2] at hy
     cases hy
   ·rw [if_neg c1] at hx
    cases hx
  ·rw [List.pairwise_iff_getElem]
   intro i i' hi hi' hlt x hx y hy
   obtain ⟨f, hf, e, hl⟩ := zipF_at (List.getElem?_eq_getElem hi)
   obtain ⟨f', hf', e', hl'⟩ := zipF_at (List.getElem?_eq_getElem hi')
   rw [← e] at hx
   rw [← e'] at hy
   obtain ⟨n, c1, rfl⟩ := okP_mem.1 hx
   obtain ⟨n', c2, rfl⟩ := okP_mem.1 hy
   exact two hf hl hf' hl' c1 c2 (.inl (by omega))
 obtain ⟨q1, q2⟩ := fold_ins (okPts (zipF FL ls)) [] List.Pairwise.nil hpw (fun x _ y hy => by cases hy)
 refine srt_ext q1 (pts_srt A 0 h.inv.ok) (fun x => ?_)
 unfold allP
 rw [q2, h.pts_of]
 constructor
 ·rintro (hx | hx)
  ·obtain ⟨z, hz, hx⟩ := List.mem_flatMap.1 hx
   obtain ⟨i, hi⟩ := List.getElem?_of_mem hz
   obtain ⟨f, hf, e, hl⟩ := zipF_at hi
   rw [← e] at hx
   exact ⟨i, f, z.2, hf, hl, hx⟩
  ·cases hx
 ·rintro ⟨i, f, l, hf, hl, hx⟩
  refine .inl (List.mem_flatMap.2 ⟨(f.2, l), ?_, hx⟩)
  refine List.mem_of_getElem? (i := i) ?_
  unfold zipF
  rw [List.getElem?_zip_eq_some, List.getElem?_map, hf]
  exact ⟨rfl, hl⟩
end Go.Proofs.YtggjhleomocojaaGreat
namespace Go.Proofs.YtggjhleomocojaaGreat
open Go.RowKit
set_option linter.unusedVariables false
theorem chain_runs {M : Mac} (c : ChP M) {t : c.τ} {m m' : M.σ} {bs bs' : List Int} {n : Nat} (h : Runs M m bs n m' bs') (hl : M.live m = true) (hd : M.live m' = false) (hf : ∀ m2, M.live m2 = true → c.settle (c.fu t) (some m2, t) = (some m2, t)) : Runs c.mac ((some m, t) : Option M.σ × c.τ) bs n (c.settle (c.fu t) (some m', t)) bs' := by
 induction h with
 | refl s bs => rw [hl] at hd; cases hd
 | @step s bs n s' bs' h1 he hr ih =>
  refine .step (M := c.mac) rfl he ?_
  show Runs c.mac (c.settle (c.fu t) (some (M.step s ((M.want s).ans bs)), t)) ((M.want s).out bs) n _ bs'
  by_cases hv : M.live (M.step s ((M.want s).ans bs)) = true
  ·rw [hf _ hv]
   exact ih hv hd
  ·have hv' : M.live (M.step s ((M.want s).ans bs)) = false := by simpa using hv
   cases hr with
   | refl => exact .refl _ _
   | step h2 _ _ => rw [hv'] at h2; cases h2
theorem FilW.start {b s : Nat} {bs : List Int} {A : List (Slot × Nat)} {k H : Nat} {F : List (List Int)} (h : Inv b s bs [] A k H F) : FilW b s [] bs [] [] A k H F [] :=
 ⟨h, rfl, rfl, fun g hg => (by cases hg), fun l hl => (by cases hl), fun i f l hf => (by simp at hf), fun f hf => by cases hf⟩
def filT0 (b s : Int) (l : List (Int × List Int)) (tries : Int) : FilT := ⟨b, s, l, tries, [], []⟩
def filNew0 (t : FilT) : Option PutM × FilT := filC.settle (t.left.length + 2) ((t.mo, t) : Option PutM × FilT)
theorem filNew0_fin (t : FilT) : ∀ m, (filNew0 t).1 = some m → m.live = true := by
 have h := fil_settle (t.left.length + 2) t (by omega)
 exact h
theorem FilW.add {b s : Nat} {ls : List (List (Int × List Int))} {bs : List Int} {P : List PutM} {G : List (Nat × Nat)} {A : List (Slot × Nat)} {k H : Nat} {F : List (List Int)} {FL : List (Option PutM × FilT)} (h : FilW b s ls bs P G A k H F FL) (l : List (Int × List Int)) (hl : ∀ x ∈ l, IsB x.2 ∧ x.1 ≤ 2147483647) (tries : Int) :
  ∃ E GE, FilW b s (ls ++ [l]) bs (P ++ E) (G ++ GE) A k H F (FL ++ [filNew0 (filT0 b s l tries)]) := by
 have hno : ∀ (j n : Nat), G[j]? = some (ls.length, n) → False := fun j n hg => by
  have := h.tg _ (List.mem_of_getElem? hg)
  exact absurd this (Nat.lt_irrefl _)
 have h0 : FR b s P G ls.length l 0 (none, filT0 b s l tries) := by
  refine ⟨h.gl, rfl, rfl, rfl, Nat.zero_le _, rfl, fun m hm => (by cases hm), fun j n m hg _ _ => (hno j n hg).elim, fun j n m hg _ => (hno j n hg).elim, fun j n m hg _ _ _ => (hno j n hg).elim, fun n hn => ?_⟩
  have hn : ([] : List Int)[n]? = some 0 := hn
  simp at hn
 obtain ⟨E, GE, c', q1, q2, q3, q4⟩ : ∃ E GE c', FR b s (P ++ E) (G ++ GE) ls.length l c' (filNew0 (filT0 b s l tries)) ∧ GE.length = E.length ∧ (∀ g ∈ GE, g.1 = ls.length) ∧ ∀ m ∈ E, ∃ x ∈ l, m = PutC.init ⟨b, s, x.1, x.2⟩ := by
  unfold filNew0
  cases l with
  | nil =>
   refine ⟨[], [], 0, ?_, rfl, fun g hg => (by cases hg), fun m hm => by cases hm⟩
   rw [List.append_nil, List.append_nil]
   have e : (filT0 b s [] tries).mo = none := rfl
   rw [e, fil_s0]
   exact h0
  | cons x r =>
   have h1 := h0.mo (x := x) (r := r) rfl
   obtain ⟨E, GE, c', q1, q2, q3, q4⟩ := h1.settle ((filT0 b s (x :: r) tries).left.length + 2)
   refine ⟨PutC.init ⟨b, s, x.1, x.2⟩ :: E, (ls.length, 0) :: GE, c', ?_, by simp [q2], fun g hg => ?_, fun m hm => ?_⟩
   ·rw [List.append_assoc, List.append_assoc] at q1
    exact q1
   ·rcases List.mem_cons.1 hg with rfl | hg
    ·rfl
    ·exact q3 g hg
   ·rcases List.mem_cons.1 hm with rfl | hm
    ·exact ⟨x, List.mem_cons_self .., rfl⟩
    ·exact q4 m hm
 refine ⟨E, GE, ⟨Inv.mores E h.inv (fun m hm => ?_), by rw [List.length_append, List.length_append, h.ll]; rfl, by rw [List.length_append, List.length_append, h.gl, q2], fun g hg => ?_, fun l' hl' => ?_, fun i f l' hf hl' => ?_, fun f hf m hm => ?_⟩⟩
 ·obtain ⟨x, hx, rfl⟩ := q4 m hm
  obtain ⟨p1, p2⟩ := hl x hx
  exact ⟨_, rfl, rfl, rfl, p1, p2⟩
 ·rw [List.length_append]
  rcases List.mem_append.1 hg with hg | hg
  ·have := h.tg g hg
   omega
  ·rw [q3 g hg]
   exact Nat.lt_succ_self _
 ·rcases List.mem_append.1 hl' with hl' | hl'
  ·exact h.lo l' hl'
  ·rw [List.mem_singleton.1 hl']
   exact hl
 ·have hll := h.ll
  by_cases hi : i < FL.length
  ·rw [List.getElem?_append_left hi] at hf
   rw [List.getElem?_append_left (by omega)] at hl'
   obtain ⟨c, hr⟩ := h.rel i f l' hf hl'
   exact ⟨c, hr.more E GE q2 (fun g hg => by rw [q3 g hg]; omega)⟩
  ·have e : i = FL.length := by
    have := (List.getElem?_eq_some_iff.1 hf).1
    simp at this
    omega
   subst e
   rw [List.getElem?_append_right (Nat.le_refl _), Nat.sub_self] at hf
   rw [hll, List.getElem?_append_right (Nat.le_refl _), Nat.sub_self] at hl'
   cases hf
   cases hl'
   exact ⟨c', by rw [hll]; exact q1⟩
 ·rcases List.mem_append.1 hf with hf | hf
  ·exact h.fin f hf m hm
  ·rw [List.mem_singleton.1 hf] at hm
   exact filNew0_fin _ m hm
end Go.Proofs.YtggjhleomocojaaGreat
