/- A put alone behind others that stopped; rounds of gets and fixes over a ring on which nobody puts any more. No program in sight. Conditions: none. -/
import Derived.Test.YtggjhleomocojaaGreatVo
namespace Go.Proofs.YtggjhleomocojaaGreat
open Go.RowKit
set_option linter.unusedVariables false
variable {b s : Nat} {bs : List Int} {P : List PutM} {k H : Nat} {F : List (List Int)}
theorem put_rem {A A' : List (Slot × Nat)} (h : Inv b s bs P A k H F) {i : Nat} {m : PutM} (hi : P[i]? = some m) (hl : m.live = true) (hT : ln A ≤ 4611686018427387000) (hln : ln A' = ln A ∨ ∃ t pad, m.pc = .cs t pad ∧ (m.want.ans bs).d = true) :
  (m.step (m.want.ans bs)).rem (ln A' : Nat) < m.rem (ln A : Nat) := by
 have hp := h.pt i m hi
 have htl := h.tail
 have e9 : (256 : Int) ^ 8 = 18446744073709551616 := by decide
 have ea : (m.c.b + m.c.s).toNat = b + s := by rw [hp.cb, hp.cs]; omega
 rcases hln with hln | ⟨t, pad, e, hd⟩
 ·rw [hln]
  refine PutM.rem_step hl ?_ ?_
  ·intro e
   obtain ⟨c, pc, hd, pos, cl, e'⟩ := m
   subst e
   show rdN bs (c.b + c.s).toNat 8 = _
   rw [ea, htl]
  ·intro t pad e hd
   obtain ⟨c, pc, hd', pos, cl, e'⟩ := m
   subst e
   obtain ⟨_, _, _, _, _, _, ⟨t', rfl, ht'⟩, _⟩ := hp
   intro ht
   have ht : (t' : Int) = (ln A : Nat) := ht
   have hd : (rdN bs (c.b + c.s).toNat 8 == (t' : Int) % 256 ^ 8) = false := hd
   rw [ea, htl, e9, ht] at hd
   have : ((ln A : Nat) : Int) = ((ln A : Nat) : Int) % 18446744073709551616 := by omega
   rw [← this] at hd
   simp at hd
 ·unfold PutM.step PutM.rem
  rw [e]
  dsimp only
  rw [if_pos hd]
  by_cases hp : pad = 0
  ·rw [if_pos hp]
   show 3 + m.c.d.length / 8 < _
   omega
  ·rw [if_neg hp]
   show 4 + m.c.d.length / 8 < _
   omega
theorem u64_id (x : Int) (h0 : 0 ≤ x) (h1 : x < 18446744073709551616) : u64 x = x := by unfold u64; omega
theorem s64_id (x : Int) (h0 : 0 ≤ x) (h1 : x < 9223372036854775808) : s64 x = x := by unfold s64; omega
theorem cs_num {t s : Nat} {nd pad : Int} (ht : t ≤ 4611686018427387000) (hs : s ≤ 8192) (hp : 0 ≤ pad) (hp1 : pad ≤ s) (hn : 0 ≤ nd) (hn1 : nd ≤ 20000) :
  u64 ((t : Int) + (nd + pad)) = t + (nd + pad) ∧ 0 ≤ (t : Int) + (nd + pad) ∧ (t : Int) + (nd + pad) ≤ 18446744073709551615 ∧ s64 (t : Int) = t ∧ s64 ((t : Int) + pad) = t + pad :=
 ⟨u64_id _ (by omega) (by omega), by omega, by omega, s64_id _ (by omega) (by omega), s64_id _ (by omega) (by omega)⟩
def PutM.behind (A : List (Slot × Nat)) (m : PutM) : Prop := m.pre = true ∨ (m.live = false ∧ m.e ≠ 0) ∨ m.pos + m.c.nd = (ln A : Nat)
variable {A : List (Slot × Nat)}
theorem put_behind (h : Inv b s bs P A k H F) {i : Nat} {m : PutM} (hi : P[i]? = some m) (hl : m.live = true) (hT : ln A ≤ 4611686018427387000) (hb : m.behind A) :
  m.want.err bs.length = 0 ∧ ∃ A', Inv b s (m.want.out bs) (P.set i (m.step (m.want.ans bs))) A' k H F ∧ A'.take k = A.take k ∧ (m.step (m.want.ans bs)).behind A' ∧ (m.step (m.want.ans bs)).rem (ln A' : Nat) < m.rem (ln A : Nat) := by
 obtain ⟨herr, A', hI, htk, hln⟩ := put_go h hi hl hT
 have hrem := put_rem h hi hl hT hln
 refine ⟨herr, A', hI, htk, ?_, hrem⟩
 have hp := h.pt i m hi
 have hlv := hp.lv hl
 have htl := h.tail
 have htl' := hI.tail
 have hft := h.fit
 have hso := h.so
 have hlen := h.rg.len
 have ea : (m.c.b + m.c.s).toNat = b + s := by rw [hp.cb, hp.cs]; omega
 clear hI hrem
 obtain ⟨c, pc, hd, pos, cl, e⟩ := m
 have same : (∀ t pad, pc ≠ .cs t pad) → ln A' = ln A := fun hn => by
  rcases hln with q | ⟨t, pad, q, _⟩
  ·exact q
  ·exact absurd q (hn t pad)
 cases pc with
 | done => cases hl
 | hd0 => exact .inl rfl
 | tl =>
  show PutM.behind A' (if _ then PutM.gapped _ _ else _)
  split
  ·exact .inl (PutM.rem_gapped _ _ 0).2
  ·exact .inl rfl
 | rm t =>
  show PutM.behind A' (if _ then _ else _)
  split
  ·exact .inl rfl
  ·exact .inr (.inl ⟨rfl, fun e => by have e : (5 : Int) = 0 := e; omega⟩)
 | rs t v => exact .inl (PutM.rem_gapped _ _ 0).2
 | ph t =>
  show PutM.behind A' (if _ then _ else _)
  split
  ·exact .inl rfl
  ·exact .inr (.inl ⟨rfl, fun e => by have e : (5 : Int) = 0 := e; omega⟩)
 | ps t v => exact .inl rfl
 | cs t pad =>
  obtain ⟨r1, r2, r3, r4, r5, r6, ⟨t', rfl, ht'⟩, r8, r9, r10⟩ := hp
  dsimp only at r1 r2 r9 hlv ea
  obtain ⟨hB1, hB2, hB3⟩ := PutC.nd_bd hlv.1
  obtain ⟨-, -, hB4⟩ := PutC.ok_bd hlv.1
  have hpad : 0 ≤ pad ∧ pad ≤ s := by
   rcases r9 with ⟨q, _⟩ | ⟨q, _, _⟩
   ·omega
   ·have : 0 ≤ (t' : Int) % c.s ∧ (t' : Int) % c.s < c.s := ⟨Int.emod_nonneg _ (by omega), Int.emod_lt_of_pos _ (by omega)⟩
    omega
  have hs9 : s ≤ 8192 := by clear r8 r9 hpad; omega
  have a3 : b + s + 8 ≤ bs.length := by clear r8 r9 hpad hso; omega
  have hn0 : 0 ≤ c.nd := by clear r8 r9 hpad hso; omega
  have hn1 : c.nd ≤ 20000 := by clear r8 r9 hpad hso; omega
  have ht9 : t' ≤ 4611686018427387000 := Nat.le_trans ht' hT
  obtain ⟨e3, a1, a2, e1, e2⟩ := cs_num ht9 hs9 hpad.1 hpad.2 hn0 hn1
  have hout : (PutM.mk c (.cs t' pad) hd pos cl e).want.out bs = if rdN bs (b + s) 8 = (t' : Int) % 256 ^ 8 then spl bs (b + s) (leB (u64 ((t' : Int) + (c.nd + pad))) 8) else bs := by
   show (if rdN bs (c.b + c.s).toNat 8 = (t' : Int) % 256 ^ 8 then spl bs (c.b + c.s).toNat (leB (u64 ((t' : Int) + (c.nd + pad))) 8) else bs) = _
   rw [ea]
  show PutM.behind A' (if (rdN bs (c.b + c.s).toNat 8 == (t' : Int) % 256 ^ 8) = true then PutM.mk c (if pad = 0 then .wh (c.b + (t' : Int) % c.s) else .pd t') hd (s64 (s64 t' + pad)) true e else ⟨c, .tl, hd, pos, cl, e⟩)
  rw [ea]
  by_cases hc : rdN bs (b + s) 8 = (t' : Int) % 256 ^ 8
  ·rw [if_pos (by simpa using hc)]
   rw [hout, if_pos hc, e3, rdN_num a3 a1 a2] at htl'
   clear hout hc
   refine .inr (.inr ?_)
   show s64 (s64 (t' : Int) + pad) + c.nd = (ln A' : Nat)
   rw [e1, e2, ← htl']
   exact Int.add_right_comm _ _ _ |>.trans (Int.add_assoc _ _ _)
  ·rw [if_neg (by simpa using hc)]
   exact .inl rfl
 | pd t =>
  rcases hb with hb | ⟨hb, _⟩ | hb
  ·cases hb
  ·cases hb
  ·refine .inr (.inr ?_)
   rw [same nofun]
   exact hb
 | wh a =>
  rcases hb with hb | ⟨hb, _⟩ | hb
  ·cases hb
  ·cases hb
  ·refine .inr (.inr ?_)
   rw [same nofun]
   show PutM.pos (if _ then _ else _) + (PutM.c (if _ then _ else _)).nd = _
   split <;> exact hb
 | wb a p l =>
  rcases hb with hb | ⟨hb, _⟩ | hb
  ·cases hb
  ·cases hb
  ·refine .inr (.inr ?_)
   rw [same nofun]
   show PutM.pos (if _ then _ else _) + (PutM.c (if _ then _ else _)).nd = _
   split <;> exact hb
 | fi a =>
  rcases hb with hb | ⟨hb, _⟩ | hb
  ·cases hb
  ·cases hb
  ·refine .inr (.inr ?_)
   rw [same nofun]
   exact hb
theorem put_ends {b s k H i : Nat} (hT : H + s ≤ 4611686018427387000) : ∀ (f : Nat) {bs : List Int} {P : List PutM} {A : List (Slot × Nat)} {m : PutM}, Inv b s bs P A k H F → P[i]? = some m → m.behind A → m.rem (ln A : Nat) ≤ f →
  ∃ (n : Nat) (bs' : List Int) (A' : List (Slot × Nat)) (m' : PutM), Runs putMac m bs n m' bs' ∧ m'.live = false ∧ n ≤ f ∧ Inv b s bs' (P.set i m') A' k H F ∧ A'.take k = A.take k ∧ m'.behind A' ∧ m'.c = m.c := by
 intro f
 induction f with
 | zero =>
  intro bs P A m h hi hb hf
  have hl : m.live = false := by
   obtain ⟨c, pc, hd, pos, cl, e⟩ := m
   cases pc with
   | done => rfl
   | fi a => exact absurd hf (by show ¬ (1 ≤ 0); omega)
   | _ => exact absurd hf (by simp [PutM.rem])
  exact ⟨0, bs, A, m, .refl _ _, hl, Nat.le_refl _, by rw [set_same hi]; exact h, rfl, hb, rfl⟩
 | succ f ih =>
  intro bs P A m h hi hb hf
  by_cases hl : m.live = true
  ·have hft := h.fit
   obtain ⟨herr, A', hI, htk, hb', hr⟩ := put_behind h hi hl (by omega) hb
   have hil := (List.getElem?_eq_some_iff.1 hi).1
   obtain ⟨n, bs', A2, m', r1, r2, r3, r4, r5, r6, r7⟩ := ih hI (List.getElem?_set_self hil) hb' (by omega)
   exact ⟨n + 1, bs', A2, m', .step hl herr r1, r2, by omega, by rw [List.set_set] at r4; exact r4, r5.trans htk, r6, r7.trans (put_same m _)⟩
  ·have hl : m.live = false := by simpa using hl
   exact ⟨0, bs, A, m, .refl _ _, hl, by omega, by rw [set_same hi]; exact h, rfl, hb, rfl⟩
theorem Inv.last {k H i : Nat} {m : PutM} (h : Inv b s bs P A k H F) (hi : P[i]? = some m) (hl : m.live = false) (he : m.e = 0) (hb : m.behind A) : ∃ x, A.getLast? = some x ∧ x.1.fin = true := by
 have hp := h.pt i m hi
 obtain ⟨r1, r2, r3, r4, r5, r6, r7⟩ := hp
 obtain ⟨c, pc, hd, pos, cl, e⟩ := m
 cases pc with
 | done =>
  rcases r7 with ⟨_, hok, j, hI⟩ | ⟨q, _, _⟩
  ·rcases hb with hb | ⟨_, hb⟩ | hb
   ·cases hb
   ·exact absurd he hb
   ·have hpos := hI.pos
    have hat := hI.at_
    obtain ⟨hB1, hB2, hB3⟩ := PutC.nd_bd hok
    dsimp only at hpos hb hat hB1 hB2 hB3
    have hs := ln_take_succ hat
    have hn : Slot.n (Slot.w c.typ c.d c.nd.toNat) = c.nd.toNat := rfl
    dsimp only at hs
    rw [hn] at hs
    have hjl := (List.getElem?_eq_some_iff.1 hat).1
    have hj : j + 1 = A.length := ln_inj h.ok (by omega) (Nat.le_refl _) (by rw [List.take_of_length_le (Nat.le_refl A.length)]; omega)
    refine ⟨(.w c.typ c.d c.nd.toNat, i), ?_, rfl⟩
    rw [List.getLast?_eq_getElem?, ← hj]
    exact hat
  ·exact absurd he q
 | _ => cases hl
variable {α : Type}
theorem fil_one (p : α → Bool) : ∀ (A : List α) (a : Nat), (∀ j y, A[j]? = some y → p y = true → j = a) → (A.filter p).length ≤ 1
 | [], a, h => by simp
 | y :: A, a, h => by
  by_cases hy : p y = true
  ·have h0 := h 0 y rfl hy
   have he : A.filter p = [] := List.filter_eq_nil_iff.2 (fun x hx hp => by
    obtain ⟨j, hj⟩ := List.getElem?_of_mem hx
    have := h (j + 1) x (by simpa using hj) hp
    omega)
   rw [List.filter_cons_of_pos hy, he]
   simp
  ·rw [List.filter_cons_of_neg hy]
   exact fil_one p A (a - 1) (fun j x hj hp => by have := h (j + 1) x (by simpa using hj) hp; omega)
theorem fil_two (p : α → Bool) : ∀ (A : List α) (a : Nat), (∀ j y, A[j]? = some y → p y = true → j = a ∨ j + 1 = a) → (A.filter p).length ≤ 2
 | [], a, h => by simp
 | y :: A, a, h => by
  by_cases hy : p y = true
  ·have h0 := h 0 y rfl hy
   have := fil_one p A (a - 1) (fun j x hj hp => by have := h (j + 1) x (by simpa using hj) hp; omega)
   rw [List.filter_cons_of_pos hy, List.length_cons]
   omega
  ·rw [List.filter_cons_of_neg hy]
   exact fil_two p A (a - 1) (fun j x hj hp => by have := h (j + 1) x (by simpa using hj) hp; omega)
theorem fil_le (p q : α → Bool) (h : ∀ x, p x = true → q x = true) : ∀ A : List α, (A.filter p).length ≤ (A.filter q).length
 | [] => Nat.le_refl _
 | y :: A => by
  have ih := fil_le p q h A
  by_cases hp : p y = true
  ·rw [List.filter_cons_of_pos hp, List.filter_cons_of_pos (h y hp)]
   simpa using ih
  ·rw [List.filter_cons_of_neg hp]
   by_cases hq : q y = true
   ·rw [List.filter_cons_of_pos hq, List.length_cons]
    omega
   ·rw [List.filter_cons_of_neg hq]
    exact ih
theorem own_len : ∀ (n : Nat) (A : List (Slot × Nat)), (∀ x ∈ A, x.2 < n) → (∀ i, (A.filter fun x => x.2 == i).length ≤ 2) → A.length ≤ 2 * n
 | 0, [], h, _ => Nat.le_refl _
 | 0, x :: r, h, _ => absurd (h x (List.mem_cons_self ..)) (Nat.not_lt_zero _)
 | n + 1, A, h, h2 => by
  have h1 := own_len n (A.filter fun x => !(x.2 == n)) (fun x hx => by
   have q := List.mem_filter.1 hx
   have q1 := h x q.1
   have q2 : x.2 ≠ n := by simpa using q.2
   omega) (fun i => by
   rw [List.filter_filter]
   refine Nat.le_trans ?_ (h2 i)
   exact fil_le _ _ (fun x hx => by simp at hx ⊢; exact hx.1) A)
  have h3 := h2 n
  have h4 : A.length = (A.filter fun x => x.2 == n).length + (A.filter fun x => !(x.2 == n)).length := by
   rw [← List.countP_eq_length_filter, ← List.countP_eq_length_filter]
   have := List.length_eq_countP_add_countP (fun x : Slot × Nat => x.2 == n) (l := A)
   rw [this]
   congr 1
   refine List.countP_congr (fun x hx => ?_)
   simp
  omega
theorem Inv.two (h : Inv b s bs P A k H F) (i : Nat) : (A.filter fun x => x.2 == i).length ≤ 2 := by
 have hU : Uncl A i → (A.filter fun x => x.2 == i).length ≤ 2 := fun hU => by
  rw [List.filter_eq_nil_iff.2 (fun x hx hp => hU x hx (by simpa using hp))]
  simp
 have hI : ∀ {j : Nat} {pad : Slot → Bool} {x : Slot} {m : PutM}, Its A i j pad x m → (A.filter fun x => x.2 == i).length ≤ 2 := fun {j pad x m} hI => by
  refine fil_two _ A j (fun j' y hj hp => ?_)
  obtain ⟨y, yi⟩ := y
  have e : yi = i := by simpa using hp
  subst e
  rcases hI.uq j' y hj with e | ⟨e, _⟩
  ·exact .inl e
  ·exact .inr e
 by_cases hi : i < P.length
 ·have hp := (h.pt i _ (List.getElem?_eq_getElem hi)).pc
  unfold PcRel at hp
  split at hp
  ·rcases hp with ⟨_, _, j, q⟩ | ⟨_, _, q⟩
   ·exact hI q
   ·exact hU q
  ·exact hU hp
  ·exact hU hp
  ·exact hU hp.2
  ·exact hU hp.2.2.2
  ·exact hU hp.2.2.2
  ·exact hU hp.2.2.2.2.2
  ·exact hU hp.2.2.2
  ·obtain ⟨j, g, _, _, _, q⟩ := hp
   exact hI q
  ·obtain ⟨j, q, _⟩ := hp
   exact hI q
  ·obtain ⟨j, q, _⟩ := hp
   exact hI q
  ·obtain ⟨j, q, _⟩ := hp
   exact hI q
 ·exact hU (fun x hx e => by have := h.ow id x hx; omega)
abbrev getMac0 : Mac := ⟨GetM, GetM.live, GetM.want, GetM.step⟩
theorem GRel.init1 {c : GetC} (hc : c.ok = true) (hb : c.b = b) (hs : c.s = s) : GRel b s A k H [] k (GetC.init c) := by
 have e : GetC.init c = ⟨c, .hd0, 0, 0, 0, [], false, 10⟩ := by unfold GetC.init; rw [hc]; rfl
 rw [e]
 exact ⟨hb, hs, hc, rfl, rfl, rfl, rfl, rfl, rfl⟩
structure Fixing (b s : Nat) (A0 : List (Slot × Nat)) (st : Prop) (bs : List Int) (out : List (Int × List Int)) (r : Nat) : Prop where
 ex : ∃ A k H, InvX True b s bs [] A k H [] ∧ mso 0 A = mso 0 A0 ∧ msgs A = msgs A0 ∧ ln A = ln A0 ∧ (∃ x, A.getLast? = some x ∧ x.1.fin = true) ∧ out = msgs (A.take k) ∧ (k = A.length ∨ nfin A + r ≤ nfin A0) ∧ (st → k = A.length ∨ ∃ x, A[k]? = some x ∧ x.1.fin = false)
variable {A0 : List (Slot × Nat)} {out : List (Int × List Int)} {r : Nat}
theorem Fixing.get {st : Prop} (h : Fixing b s A0 st bs out r) (hs : ln A0 ≤ s) (c : GetC) (hcb : c.b = b) (hcs : c.s = s) (hok : c.ok = true) (hmost : ((msgs A0).length : Int) < c.most) :
  ∃ n bs' g', Runs getMac0 (GetC.init c) bs n g' bs' ∧ g'.live = false ∧ g'.e = 0 ∧ n ≤ s + s / 8 + 6 ∧ Fixing b s A0 True bs' (out ++ g'.out) r := by
 obtain ⟨A, k, H, hI, h1, h2, h3, h4, h5, h6, h7⟩ := h.ex
 have hso := hI.so
 obtain ⟨n, bs', k', H', g', e⟩ := get_ends (D := True) (A := A) (k0 := k) (by omega) (GetM.rem (GetC.init c)) hI (GRel.init1 (A := A) (k := k) (H := H) hok hcb hcs) (Nat.le_refl _)
 have hi : GetC.init c = ⟨c, .hd0, 0, 0, 0, [], false, 10⟩ := by unfold GetC.init; rw [hok]; rfl
 obtain ⟨d1, d2, d3, d4⟩ := e.rel.done e.fin
 have hrem : GetM.rem (GetC.init c) = (c.s + c.s / 8).toNat + 6 := by rw [hi]; rfl
 refine ⟨n, bs', g', e.runs, e.fin, d1, by have := e.few; omega, ⟨A, k', H', e.inv, h1, h2, h3, h4, ?_, ?_, fun _ => ?_⟩⟩
 ·rw [d4, h5]
  conv => rhs; rw [← List.take_append_drop k (A.take k'), msgs_app, List.take_take, Nat.min_eq_left d3]
 ·rcases h6 with q | q
  ·left
   have := e.kk
   have := e.inv.kl
   omega
  ·exact .inr q
 ·have hw := e.why (by rw [hi]; rfl)
  rcases hw with q | q | ⟨q, q'⟩ | q
  ·exact .inr q
  ·exact .inl q
  ·left
   have hfk := e.inv.fk
   rw [tot_nil, Nat.add_zero] at hfk
   have hle := ln_take_le A k'
   obtain ⟨x, hx⟩ := Nat.dvd_of_mod_eq_zero q
   have hx1 : 1 ≤ x := by
    rcases Nat.eq_zero_or_pos x with e0 | e0
    ·rw [e0] at hx; omega
    ·exact e0
   have hsx : s * 1 ≤ s * x := Nat.mul_le_mul_left s hx1
   exact ln_inj hI.ok e.inv.kl (Nat.le_refl _) (by rw [List.take_of_length_le (Nat.le_refl A.length)]; omega)
  ·exfalso
   have hc : (GetC.init c).c = c := by rw [hi]
   rw [hc, d4] at q
   have h8 : (msgs A).length = (msgs ((A.take k').take k)).length + (msgs ((A.take k').drop k)).length + (msgs (A.drop k')).length := by
    conv => lhs; rw [← List.take_append_drop k' A, msgs_app, ← List.take_append_drop k (A.take k'), msgs_app]
    rw [List.length_append, List.length_append]
   rw [h2] at h8
   omega
theorem Fixing.fix (h : Fixing b s A0 True bs out r) (hs : ln A0 ≤ s) (c : FixC) (hcb : c.b = b) (hcs : c.s = s) (hok : rgOk c.b c.s = true) :
  ∃ n bs' m', Runs fixMac0 c.init bs n m' bs' ∧ m'.live = false ∧ n ≤ 2 * s ∧ Fixing b s A0 False bs' out (r + 1) := by
 obtain ⟨A, k, H, hI, h1, h2, h3, h4, h5, h6, h7⟩ := h.ex
 obtain ⟨n, bs', A', m', r1, r2, r3, r4, r5, r6⟩ := fix_ends hI (by omega) h4 c hcb hcs hok
 refine ⟨n, bs', m', r1, r2, r3, ⟨A', k, H, r4, r5.ms.trans h1, r5.mg.trans h2, r5.ln.trans h3, ?_, by rw [r5.tk]; exact h5, ?_, nofun⟩⟩
 ·obtain ⟨x, hx, hf⟩ := h4
  exact ⟨x, r5.la x hx hf, hf⟩
 ·rcases r6 with q | ⟨rfl, q⟩
  ·rcases h6 with q' | q'
   ·exfalso
    have hnone : A.drop k = [] := by rw [q']; exact List.drop_length
    have hfk := hI.fk
    have hfk' := r4.fk
    have hkl := r4.kl
    -- nothing stands behind: the fix did nothing
    have hl1 : Go.Proofs.YtggjhleomocojaaGreat.ln (A'.take k) = Go.Proofs.YtggjhleomocojaaGreat.ln A' := by
     rw [r5.tk, r5.ln, q', List.take_of_length_le (Nat.le_refl _)]
    have hk : k = A'.length := ln_inj r4.ok hkl (Nat.le_refl _) (by rw [List.take_of_length_le (Nat.le_refl A'.length)]; exact hl1)
    have e1 : A' = A := by
     have := r5.tk
     rw [List.take_of_length_le (by omega), List.take_of_length_le (by omega)] at this
     exact this
    rw [e1] at q
    omega
   ·exact .inr (by omega)
  ·rcases q with q | ⟨x, hx, hf⟩
   ·exact .inl q
   ·rcases h7 trivial with q' | ⟨y, hy, hf'⟩
    ·exact .inl q'
    ·rw [hx] at hy
     cases hy
     rw [hf] at hf'
     cases hf'
theorem Fixing.all {st : Prop} (h : Fixing b s A0 st bs out r) (hr : nfin A0 < r) : out = msgs A0 := by
 obtain ⟨A, k, H, hI, h1, h2, h3, h4, h5, h6, h7⟩ := h.ex
 rcases h6 with q | q
 ·rw [h5, q, List.take_of_length_le (Nat.le_refl _), h2]
 ·omega
end Go.Proofs.YtggjhleomocojaaGreat
namespace Go.Proofs.YtggjhleomocojaaGreat
open Go.RowKit
set_option linter.unusedVariables false
structure Pt where
 p : Int
 t : Int
 d : List Int
def Pt.lt (p : Pt) (q : Pt) : Bool := decide (q.p < p.p)
def insP (p : Pt) (out : List Pt) : List Pt := out.takeWhile p.lt ++ p :: out.dropWhile p.lt
def Srt (l : List Pt) : Prop := l.Pairwise fun a b => a.p < b.p
theorem insP_mem (p x : Pt) (out : List Pt) : x ∈ insP p out ↔ x = p ∨ x ∈ out := by
 have e : x ∈ out ↔ x ∈ out.takeWhile p.lt ++ out.dropWhile p.lt := by rw [List.takeWhile_append_dropWhile]
 unfold insP
 rw [e, List.mem_append, List.mem_append, List.mem_cons]
 constructor
 ·rintro (h | h | h)
  ·exact .inr (.inl h)
  ·exact .inl h
  ·exact .inr (.inr h)
 ·rintro (h | h | h)
  ·exact .inr (.inl h)
  ·exact .inl h
  ·exact .inr (.inr h)
theorem Srt.tail {a : Pt} {l : List Pt} (h : Srt (a :: l)) : Srt l ∧ ∀ x ∈ l, a.p < x.p := by
 have := List.pairwise_cons.1 h
 exact ⟨this.2, this.1⟩
theorem insP_srt (p : Pt) : ∀ {out : List Pt}, Srt out → (∀ q ∈ out, q.p ≠ p.p) → Srt (insP p out)
 | [], _, _ => List.pairwise_singleton _ _
 | a :: r, h, hn => by
  obtain ⟨h1, h2⟩ := h.tail
  by_cases ha : p.lt a = true
  ·have e : insP p (a :: r) = a :: insP p r := by
    unfold insP
    rw [List.takeWhile_cons_of_pos ha, List.dropWhile_cons_of_pos ha]
    rfl
   rw [e]
   have ha' : a.p < p.p := by simpa [Pt.lt] using ha
   refine List.pairwise_cons.2 ⟨fun x hx => ?_, insP_srt p h1 (fun q hq => hn q (List.mem_cons_of_mem _ hq))⟩
   rcases (insP_mem p x r).1 hx with rfl | hx
   ·exact ha'
   ·exact h2 x hx
  ·have e : insP p (a :: r) = p :: a :: r := by
    unfold insP
    rw [List.takeWhile_cons_of_neg ha, List.dropWhile_cons_of_neg ha]
    rfl
   rw [e]
   have ha' : ¬ a.p < p.p := by simpa [Pt.lt] using ha
   have hne := hn a (List.mem_cons_self ..)
   refine List.pairwise_cons.2 ⟨fun x hx => ?_, h⟩
   rcases List.mem_cons.1 hx with rfl | hx
   ·omega
   ·have := h2 x hx
    omega
theorem srt_ext : ∀ {l l' : List Pt}, Srt l → Srt l' → (∀ x, x ∈ l ↔ x ∈ l') → l = l'
 | [], [], _, _, _ => rfl
 | [], b :: r', _, _, h => by have := (h b).2 (List.mem_cons_self ..); cases this
 | a :: r, [], _, _, h => by have := (h a).1 (List.mem_cons_self ..); cases this
 | a :: r, b :: r', h1, h2, h => by
  obtain ⟨s1, l1⟩ := h1.tail
  obtain ⟨s2, l2⟩ := h2.tail
  have e : a = b := by
   rcases List.mem_cons.1 ((h a).1 (List.mem_cons_self ..)) with e | e
   ·exact e
   ·rcases List.mem_cons.1 ((h b).2 (List.mem_cons_self ..)) with e' | e'
    ·exact e'.symm
    ·have := l1 b e'
     have := l2 a e
     omega
  subst e
  congr 1
  refine srt_ext s1 s2 (fun x => ?_)
  constructor
  ·intro hx
   have h3 := l1 x hx
   rcases List.mem_cons.1 ((h x).1 (List.mem_cons_of_mem _ hx)) with e | e
   ·rw [e] at h3; omega
   ·exact e
  ·intro hx
   have h3 := l2 x hx
   rcases List.mem_cons.1 ((h x).2 (List.mem_cons_of_mem _ hx)) with e | e
   ·rw [e] at h3; omega
   ·exact e
def pts : Nat → List (Slot × Nat) → List Pt
 | _, [] => []
 | o, (.w t d n, _) :: r => ⟨(o : Nat), t, d⟩ :: pts (o + n) r
 | o, (x, _) :: r => pts (o + x.n) r
theorem pts_msgs : ∀ (A : List (Slot × Nat)) (o : Nat), (pts o A).map (fun x => (x.t, x.d)) = msgs A
 | [], _ => rfl
 | (.w t d n, _) :: r, o => by show (t, d) :: _ = (t, d) :: _; rw [pts_msgs r]
 | (.z n, _) :: r, o => pts_msgs r _
 | (.p n l q, _) :: r, o => pts_msgs r _
 | (.b t d n k, _) :: r, o => pts_msgs r _
theorem pts_mem : ∀ (A : List (Slot × Nat)) (o : Nat) (x : Pt), x ∈ pts o A ↔ ∃ j t d n i, A[j]? = some (.w t d n, i) ∧ x = ⟨(o + ln (A.take j) : Nat), t, d⟩
 | [], o, x => by simp [pts]
 | (y, i) :: r, o, x => by
  have ih := pts_mem r (o + y.n) x
  have step : (∃ j t d n i', r[j]? = some (Slot.w t d n, i') ∧ x = ⟨((o + y.n) + ln (r.take j) : Nat), t, d⟩) ↔ ∃ j t d n i', ((y, i) :: r)[j + 1]? = some (Slot.w t d n, i') ∧ x = ⟨(o + ln (((y, i) :: r).take (j + 1)) : Nat), t, d⟩ := by
   have e : ∀ j, ln (((y, i) :: r).take (j + 1)) = y.n + ln (r.take j) := fun j => rfl
   simp only [List.getElem?_cons_succ, e, Nat.add_assoc]
  cases y with
  | w t d n =>
   show x ∈ (⟨(o : Nat), t, d⟩ : Pt) :: pts (o + n) r ↔ _
   rw [List.mem_cons]
   constructor
   ·rintro (rfl | h)
    ·exact ⟨0, t, d, n, i, rfl, rfl⟩
    ·obtain ⟨j, t', d', n', i', h1, h2⟩ := step.1 (ih.1 h)
     exact ⟨j + 1, t', d', n', i', h1, h2⟩
   ·rintro ⟨j, t', d', n', i', h1, h2⟩
    cases j with
    | zero => cases h1; exact .inl h2
    | succ j => exact .inr (ih.2 (step.2 ⟨j, t', d', n', i', h1, h2⟩))
  | _ =>
   refine Iff.trans ih (Iff.trans step ?_)
   constructor
   ·rintro ⟨j, t', d', n', i', h1, h2⟩
    exact ⟨j + 1, t', d', n', i', h1, h2⟩
   ·rintro ⟨j, t', d', n', i', h1, h2⟩
    cases j with
    | zero => cases h1
    | succ j => exact ⟨j, t', d', n', i', h1, h2⟩
theorem pts_ge : ∀ (A : List (Slot × Nat)) (o : Nat), ∀ x ∈ pts o A, (o : Int) ≤ x.p := by
 intro A o x hx
 obtain ⟨j, t, d, n, i, _, rfl⟩ := (pts_mem A o x).1 hx
 show (o : Int) ≤ (o + ln (A.take j) : Nat)
 omega
theorem pts_srt : ∀ (A : List (Slot × Nat)) (o : Nat), (∀ x ∈ A, x.1.ok) → Srt (pts o A)
 | [], _, _ => List.Pairwise.nil
 | (.w t d n, i) :: r, o, h => by
  have hn : 8 ≤ n := (h (.w t d n, i) (List.mem_cons_self ..)).n0
  refine List.pairwise_cons.2 ⟨fun x hx => ?_, pts_srt r _ (fun y hy => h y (List.mem_cons_of_mem _ hy))⟩
  have := pts_ge r (o + n) x hx
  show (o : Int) < x.p
  omega
 | (.z n, _) :: r, o, h => pts_srt r _ (fun y hy => h y (List.mem_cons_of_mem _ hy))
 | (.p n l q, _) :: r, o, h => pts_srt r _ (fun y hy => h y (List.mem_cons_of_mem _ hy))
 | (.b t d n k, _) :: r, o, h => pts_srt r _ (fun y hy => h y (List.mem_cons_of_mem _ hy))
theorem Inv.pts_of {b s : Nat} {bs : List Int} {P : List PutM} {A : List (Slot × Nat)} {k H : Nat} {F : List (List Int)} (h : Inv b s bs P A k H F) (x : Pt) : x ∈ pts 0 A ↔ ∃ m ∈ P, m.e = 0 ∧ x = ⟨m.pos, m.c.typ, m.c.d⟩ := by
 rw [pts_mem]
 constructor
 ·rintro ⟨j, t, d, n, i, hj, rfl⟩
  obtain ⟨m, hm, he, rfl, rfl, hp⟩ := h.whose0 hj
  refine ⟨m, List.mem_of_getElem? hm, he, ?_⟩
  rw [hp, Nat.zero_add]
 ·rintro ⟨m, hm, he, rfl⟩
  obtain ⟨i, hi⟩ := List.getElem?_of_mem hm
  have hl : m.live = false := by
   cases hl : m.live with
   | false => rfl
   | true =>
    have := ((h.pt i m hi).lv hl).2
    omega
  obtain ⟨j, hj⟩ := h.has hi hl he
  obtain ⟨m', hm', _, _, _, hp⟩ := h.whose0 hj
  rw [hi] at hm'
  cases hm'
  exact ⟨j, _, _, _, i, hj, by rw [hp, Nat.zero_add]⟩
end Go.Proofs.YtggjhleomocojaaGreat
