/- A put alone behind others that stopped; rounds of gets and fixes over a ring on which nobody puts any more. No program in sight. Conditions: none. -/
import Derived.Test.YtknahaaefmlcpaaGreatVo
namespace Go.Proofs.YtknahaaefmlcpaaGreat
open Go.RowKit
set_option linter.unusedVariables false
theorem put_rem {b s : Nat} {bs : List Int} {P : List PutM} {A A' : List (Slot × Nat)} {k H : Nat} {F : List (List Int)} (h : Inv b s bs P A k H F) {i : Nat} {m : PutM} (hi : P[i]? = some m) (hl : m.live = true) (hT : ln A ≤ 4611686018427387000) (hln : ln A' = ln A ∨ ∃ t pad, m.pc = .cs t pad ∧ (m.want.ans bs).d = true) :
    (m.step (m.want.ans bs)).rem (ln A' : Nat) < m.rem (ln A : Nat) := by
  have hp := h.pt i m hi
  have htl := h.tail
  have e9 : (256 : Int) ^ 8 = 18446744073709551616 := by decide
  have ea : (m.c.b + m.c.s).toNat = b + s := by rw [hp.cb, hp.cs]; omega
  rcases hln with hln | ⟨t, pad, e, hd⟩
  · rw [hln]
    refine PutM.rem_step hl ?_ ?_
    · intro e
      obtain ⟨c, pc, hd, pos, cl, e'⟩ := m
      subst e
      show rdN bs (c.b + c.s).toNat 8 = _
      rw [ea, htl]
    · intro t pad e hd
      obtain ⟨c, pc, hd', pos, cl, e'⟩ := m
      subst e
      obtain ⟨_, _, _, _, _, _, ⟨t', rfl, ht'⟩, _⟩ := hp
      intro ht
      have ht : (t' : Int) = (ln A : Nat) := ht
      have hd : (rdN bs (c.b + c.s).toNat 8 == (t' : Int) % 256 ^ 8) = false := hd
      rw [ea, htl, e9, ht] at hd
      have : ((ln A : Nat) : Int) = ((ln A : Nat) : Int) % 18446744073709551616 := by omega
      rw [← this] at hd
      simp at hd
  · unfold PutM.step PutM.rem
    rw [e]
    dsimp only
    rw [if_pos hd]
    by_cases hp : pad = 0
    · rw [if_pos hp]
      show 3 + m.c.d.length / 8 < _
      omega
    · rw [if_neg hp]
      show 4 + m.c.d.length / 8 < _
      omega
theorem u64_id (x : Int) (h0 : 0 ≤ x) (h1 : x < 18446744073709551616) : u64 x = x := by unfold u64; omega
theorem s64_id (x : Int) (h0 : 0 ≤ x) (h1 : x < 9223372036854775808) : s64 x = x := by unfold s64; omega
theorem cs_num {t s : Nat} {nd pad : Int} (ht : t ≤ 4611686018427387000) (hs : s ≤ 8192) (hp : 0 ≤ pad) (hp1 : pad ≤ s) (hn : 0 ≤ nd) (hn1 : nd ≤ 20000) :
    u64 ((t : Int) + (nd + pad)) = t + (nd + pad) ∧ 0 ≤ (t : Int) + (nd + pad) ∧ (t : Int) + (nd + pad) ≤ 18446744073709551615 ∧ s64 (t : Int) = t ∧ s64 ((t : Int) + pad) = t + pad :=
  ⟨u64_id _ (by omega) (by omega), by omega, by omega, s64_id _ (by omega) (by omega), s64_id _ (by omega) (by omega)⟩
/-- A put that has not claimed, or stands last of all. -/
def PutM.behind (A : List (Slot × Nat)) (m : PutM) : Prop := m.pre = true ∨ (m.live = false ∧ m.e ≠ 0) ∨ m.pos + m.c.nd = (ln A : Nat)
theorem put_behind {b s : Nat} {bs : List Int} {P : List PutM} {A : List (Slot × Nat)} {k H : Nat} {F : List (List Int)} (h : Inv b s bs P A k H F) {i : Nat} {m : PutM} (hi : P[i]? = some m) (hl : m.live = true) (hT : ln A ≤ 4611686018427387000) (hb : m.behind A) :
    m.want.err bs.length = 0 ∧ ∃ A', Inv b s (m.want.out bs) (P.set i (m.step (m.want.ans bs))) A' k H F ∧ A'.take k = A.take k ∧ (m.step (m.want.ans bs)).behind A' ∧ (m.step (m.want.ans bs)).rem (ln A' : Nat) < m.rem (ln A : Nat) := by
  obtain ⟨herr, A', hI, htk, hln⟩ := put_go h hi hl hT
  have hrem := put_rem h hi hl hT hln
  refine ⟨herr, A', hI, htk, ?_, hrem⟩
  have hp := h.pt i m hi
  have hlv := hp.lv hl
  have htl := h.tail
  have htl' := hI.tail
  have hft := h.fit
  have hso := h.so
  have hlen := h.rg.len
  have ea : (m.c.b + m.c.s).toNat = b + s := by rw [hp.cb, hp.cs]; omega
  clear hI hrem
  obtain ⟨c, pc, hd, pos, cl, e⟩ := m
  have same : (∀ t pad, pc ≠ .cs t pad) → ln A' = ln A := fun hn => by
    rcases hln with q | ⟨t, pad, q, _⟩
    · exact q
    · exact absurd q (hn t pad)
  cases pc with
  | done => cases hl
  | hd0 => exact .inl rfl
  | tl =>
    show PutM.behind A' (if _ then PutM.gapped _ _ else _)
    split
    · exact .inl (PutM.rem_gapped _ _ 0).2
    · exact .inl rfl
  | rm t =>
    show PutM.behind A' (if _ then _ else _)
    split
    · exact .inl rfl
    · exact .inr (.inl ⟨rfl, fun e => by have e : (5 : Int) = 0 := e; omega⟩)
  | rs t v => exact .inl (PutM.rem_gapped _ _ 0).2
  | ph t =>
    show PutM.behind A' (if _ then _ else _)
    split
    · exact .inl rfl
    · exact .inr (.inl ⟨rfl, fun e => by have e : (5 : Int) = 0 := e; omega⟩)
  | ps t v => exact .inl rfl
  | cs t pad =>
    obtain ⟨r1, r2, r3, r4, r5, r6, ⟨t', rfl, ht'⟩, r8, r9, r10⟩ := hp
    dsimp only at r1 r2 r9 hlv ea
    obtain ⟨hB1, hB2, hB3⟩ := PutC.nd_bd hlv.1
    obtain ⟨-, -, hB4⟩ := PutC.ok_bd hlv.1
    have hpad : 0 ≤ pad ∧ pad ≤ s := by
      rcases r9 with ⟨q, _⟩ | ⟨q, _, _⟩
      · omega
      · have : 0 ≤ (t' : Int) % c.s ∧ (t' : Int) % c.s < c.s := ⟨Int.emod_nonneg _ (by omega), Int.emod_lt_of_pos _ (by omega)⟩
        omega
    have hs9 : s ≤ 8192 := by clear r8 r9 hpad; omega
    have a3 : b + s + 8 ≤ bs.length := by clear r8 r9 hpad hso; omega
    have hn0 : 0 ≤ c.nd := by clear r8 r9 hpad hso; omega
    have hn1 : c.nd ≤ 20000 := by clear r8 r9 hpad hso; omega
    have ht9 : t' ≤ 4611686018427387000 := Nat.le_trans ht' hT
    obtain ⟨e3, a1, a2, e1, e2⟩ := cs_num ht9 hs9 hpad.1 hpad.2 hn0 hn1
    have hout : (PutM.mk c (.cs t' pad) hd pos cl e).want.out bs = if rdN bs (b + s) 8 = (t' : Int) % 256 ^ 8 then spl bs (b + s) (leB (u64 ((t' : Int) + (c.nd + pad))) 8) else bs := by
      show (if rdN bs (c.b + c.s).toNat 8 = (t' : Int) % 256 ^ 8 then spl bs (c.b + c.s).toNat (leB (u64 ((t' : Int) + (c.nd + pad))) 8) else bs) = _
      rw [ea]
    show PutM.behind A' (if (rdN bs (c.b + c.s).toNat 8 == (t' : Int) % 256 ^ 8) = true then PutM.mk c (if pad = 0 then .wh (c.b + (t' : Int) % c.s) else .pd t') hd (s64 (s64 t' + pad)) true e else ⟨c, .tl, hd, pos, cl, e⟩)
    rw [ea]
    by_cases hc : rdN bs (b + s) 8 = (t' : Int) % 256 ^ 8
    · rw [if_pos (by simpa using hc)]
      rw [hout, if_pos hc, e3, rdN_num a3 a1 a2] at htl'
      clear hout hc
      refine .inr (.inr ?_)
      show s64 (s64 (t' : Int) + pad) + c.nd = (ln A' : Nat)
      rw [e1, e2, ← htl']
      exact Int.add_right_comm _ _ _ |>.trans (Int.add_assoc _ _ _)
    · rw [if_neg (by simpa using hc)]
      exact .inl rfl
  | pd t =>
    rcases hb with hb | ⟨hb, _⟩ | hb
    · cases hb
    · cases hb
    · refine .inr (.inr ?_)
      rw [same nofun]
      exact hb
  | wh a =>
    rcases hb with hb | ⟨hb, _⟩ | hb
    · cases hb
    · cases hb
    · refine .inr (.inr ?_)
      rw [same nofun]
      show PutM.pos (if _ then _ else _) + (PutM.c (if _ then _ else _)).nd = _
      split <;> exact hb
  | wb a p l =>
    rcases hb with hb | ⟨hb, _⟩ | hb
    · cases hb
    · cases hb
    · refine .inr (.inr ?_)
      rw [same nofun]
      show PutM.pos (if _ then _ else _) + (PutM.c (if _ then _ else _)).nd = _
      split <;> exact hb
  | fi a =>
    rcases hb with hb | ⟨hb, _⟩ | hb
    · cases hb
    · cases hb
    · refine .inr (.inr ?_)
      rw [same nofun]
      exact hb
/-- A put alone runs to its end. -/
theorem put_ends {b s k H i : Nat} {F : List (List Int)} (hT : H + s ≤ 4611686018427387000) : ∀ (f : Nat) {bs : List Int} {P : List PutM} {A : List (Slot × Nat)} {m : PutM}, Inv b s bs P A k H F → P[i]? = some m → m.behind A → m.rem (ln A : Nat) ≤ f →
    ∃ (n : Nat) (bs' : List Int) (A' : List (Slot × Nat)) (m' : PutM), Runs putMac m bs n m' bs' ∧ m'.live = false ∧ n ≤ f ∧ Inv b s bs' (P.set i m') A' k H F ∧ A'.take k = A.take k ∧ m'.behind A' ∧ m'.c = m.c := by
  intro f
  induction f with
  | zero =>
    intro bs P A m h hi hb hf
    have hl : m.live = false := by
      obtain ⟨c, pc, hd, pos, cl, e⟩ := m
      cases pc with
      | done => rfl
      | fi a => exact absurd hf (by show ¬ (1 ≤ 0); omega)
      | _ => exact absurd hf (by simp [PutM.rem])
    exact ⟨0, bs, A, m, .refl _ _, hl, Nat.le_refl _, by rw [set_same hi]; exact h, rfl, hb, rfl⟩
  | succ f ih =>
    intro bs P A m h hi hb hf
    by_cases hl : m.live = true
    · have hft := h.fit
      obtain ⟨herr, A', hI, htk, hb', hr⟩ := put_behind h hi hl (by omega) hb
      have hil := (List.getElem?_eq_some_iff.1 hi).1
      obtain ⟨n, bs', A2, m', r1, r2, r3, r4, r5, r6, r7⟩ := ih hI (List.getElem?_set_self hil) hb' (by omega)
      exact ⟨n + 1, bs', A2, m', .step hl herr r1, r2, by omega, by rw [List.set_set] at r4; exact r4, r5.trans htk, r6, r7.trans (put_same m _)⟩
    · have hl : m.live = false := by simpa using hl
      exact ⟨0, bs, A, m, .refl _ _, hl, by omega, by rw [set_same hi]; exact h, rfl, hb, rfl⟩
/-- It ended well: its slot is the last one. -/
theorem Inv.last {b s : Nat} {bs : List Int} {P : List PutM} {A : List (Slot × Nat)} {k H i : Nat} {F : List (List Int)} {m : PutM} (h : Inv b s bs P A k H F) (hi : P[i]? = some m) (hl : m.live = false) (he : m.e = 0) (hb : m.behind A) : ∃ x, A.getLast? = some x ∧ x.1.fin = true := by
  have hp := h.pt i m hi
  obtain ⟨r1, r2, r3, r4, r5, r6, r7⟩ := hp
  obtain ⟨c, pc, hd, pos, cl, e⟩ := m
  cases pc with
  | done =>
    rcases r7 with ⟨_, hok, j, hI⟩ | ⟨q, _, _⟩
    · rcases hb with hb | ⟨_, hb⟩ | hb
      · cases hb
      · exact absurd he hb
      · have hpos := hI.pos
        have hat := hI.at_
        obtain ⟨hB1, hB2, hB3⟩ := PutC.nd_bd hok
        dsimp only at hpos hb hat hB1 hB2 hB3
        have hs := ln_take_succ hat
        have hn : Slot.n (Slot.w c.typ c.d c.nd.toNat) = c.nd.toNat := rfl
        dsimp only at hs
        rw [hn] at hs
        have hjl := (List.getElem?_eq_some_iff.1 hat).1
        have hj : j + 1 = A.length := ln_inj h.ok (by omega) (Nat.le_refl _) (by rw [List.take_of_length_le (Nat.le_refl A.length)]; omega)
        refine ⟨(.w c.typ c.d c.nd.toNat, i), ?_, rfl⟩
        rw [List.getLast?_eq_getElem?, ← hj]
        exact hat
    · exact absurd he q
  | _ => cases hl
theorem fil_one {α : Type} (p : α → Bool) : ∀ (A : List α) (a : Nat), (∀ j y, A[j]? = some y → p y = true → j = a) → (A.filter p).length ≤ 1
  | [], a, h => by simp
  | y :: A, a, h => by
    by_cases hy : p y = true
    · have h0 := h 0 y rfl hy
      have he : A.filter p = [] := List.filter_eq_nil_iff.2 (fun x hx hp => by
        obtain ⟨j, hj⟩ := List.getElem?_of_mem hx
        have := h (j + 1) x (by simpa using hj) hp
        omega)
      rw [List.filter_cons_of_pos hy, he]
      simp
    · rw [List.filter_cons_of_neg hy]
      exact fil_one p A (a - 1) (fun j x hj hp => by have := h (j + 1) x (by simpa using hj) hp; omega)
theorem fil_two {α : Type} (p : α → Bool) : ∀ (A : List α) (a : Nat), (∀ j y, A[j]? = some y → p y = true → j = a ∨ j + 1 = a) → (A.filter p).length ≤ 2
  | [], a, h => by simp
  | y :: A, a, h => by
    by_cases hy : p y = true
    · have h0 := h 0 y rfl hy
      have := fil_one p A (a - 1) (fun j x hj hp => by have := h (j + 1) x (by simpa using hj) hp; omega)
      rw [List.filter_cons_of_pos hy, List.length_cons]
      omega
    · rw [List.filter_cons_of_neg hy]
      exact fil_two p A (a - 1) (fun j x hj hp => by have := h (j + 1) x (by simpa using hj) hp; omega)
theorem fil_le {α : Type} (p q : α → Bool) (h : ∀ x, p x = true → q x = true) : ∀ A : List α, (A.filter p).length ≤ (A.filter q).length
  | [] => Nat.le_refl _
  | y :: A => by
    have ih := fil_le p q h A
    by_cases hp : p y = true
    · rw [List.filter_cons_of_pos hp, List.filter_cons_of_pos (h y hp)]
      simpa using ih
    · rw [List.filter_cons_of_neg hp]
      by_cases hq : q y = true
      · rw [List.filter_cons_of_pos hq, List.length_cons]
        omega
      · rw [List.filter_cons_of_neg hq]
        exact ih
/-- At most two slots of each owner. -/
theorem own_len : ∀ (n : Nat) (A : List (Slot × Nat)), (∀ x ∈ A, x.2 < n) → (∀ i, (A.filter fun x => x.2 == i).length ≤ 2) → A.length ≤ 2 * n
  | 0, [], h, _ => Nat.le_refl _
  | 0, x :: r, h, _ => absurd (h x (List.mem_cons_self ..)) (Nat.not_lt_zero _)
  | n + 1, A, h, h2 => by
    have h1 := own_len n (A.filter fun x => !(x.2 == n)) (fun x hx => by
      have q := List.mem_filter.1 hx
      have q1 := h x q.1
      have q2 : x.2 ≠ n := by simpa using q.2
      omega) (fun i => by
      rw [List.filter_filter]
      refine Nat.le_trans ?_ (h2 i)
      exact fil_le _ _ (fun x hx => by simp at hx ⊢; exact hx.1) A)
    have h3 := h2 n
    have h4 : A.length = (A.filter fun x => x.2 == n).length + (A.filter fun x => !(x.2 == n)).length := by
      rw [← List.countP_eq_length_filter, ← List.countP_eq_length_filter]
      have := List.length_eq_countP_add_countP (fun x : Slot × Nat => x.2 == n) (l := A)
      rw [this]
      congr 1
      refine List.countP_congr (fun x hx => ?_)
      simp
    omega
theorem Inv.two {b s : Nat} {bs : List Int} {P : List PutM} {A : List (Slot × Nat)} {k H : Nat} {F : List (List Int)} (h : Inv b s bs P A k H F) (i : Nat) : (A.filter fun x => x.2 == i).length ≤ 2 := by
  have hU : Uncl A i → (A.filter fun x => x.2 == i).length ≤ 2 := fun hU => by
    rw [List.filter_eq_nil_iff.2 (fun x hx hp => hU x hx (by simpa using hp))]
    simp
  have hI : ∀ {j : Nat} {pad : Slot → Bool} {x : Slot} {m : PutM}, Its A i j pad x m → (A.filter fun x => x.2 == i).length ≤ 2 := fun {j pad x m} hI => by
    refine fil_two _ A j (fun j' y hj hp => ?_)
    obtain ⟨y, yi⟩ := y
    have e : yi = i := by simpa using hp
    subst e
    rcases hI.uq j' y hj with e | ⟨e, _⟩
    · exact .inl e
    · exact .inr e
  by_cases hi : i < P.length
  · have hp := (h.pt i _ (List.getElem?_eq_getElem hi)).pc
    unfold PcRel at hp
    split at hp
    · rcases hp with ⟨_, _, j, q⟩ | ⟨_, _, q⟩
      · exact hI q
      · exact hU q
    · exact hU hp
    · exact hU hp
    · exact hU hp.2
    · exact hU hp.2.2.2
    · exact hU hp.2.2.2
    · exact hU hp.2.2.2.2.2
    · exact hU hp.2.2.2
    · obtain ⟨j, g, _, _, _, q⟩ := hp
      exact hI q
    · obtain ⟨j, q, _⟩ := hp
      exact hI q
    · obtain ⟨j, q, _⟩ := hp
      exact hI q
    · obtain ⟨j, q, _⟩ := hp
      exact hI q
  · exact hU (fun x hx e => by have := h.ow id x hx; omega)
/-- How many slots are blocked, where the last put ended well. -/
theorem Inv.nfin_le {b s n : Nat} {bs : List Int} {P : List PutM} {A : List (Slot × Nat)} {k H : Nat} {F : List (List Int)} {m : PutM} (h : Inv b s bs P A k H F) (hn : P.length = n + 1) (hm : P[n]? = some m) (hl : m.live = false) : nfin A ≤ 2 * n := by
  refine own_len n _ (fun x hx => ?_) (fun i => ?_)
  · have q := List.mem_filter.1 hx
    have q1 := h.ow id x q.1
    obtain ⟨j', hj'⟩ := List.getElem?_of_mem q.1
    obtain ⟨y, i⟩ := x
    rcases Nat.lt_or_ge i n with e | e
    · exact e
    · exfalso
      have e : i = n := by dsimp only at q1; omega
      subst e
      have hr := (h.pt i m hm).pc
      obtain ⟨c, pc, hd, pos, cl, e⟩ := m
      cases pc with
      | done =>
        rcases hr with ⟨_, _, j, hI⟩ | ⟨_, _, hU⟩
        · rcases hI.uq j' y hj' with rfl | ⟨_, hp⟩
          · have := hI.at_
            rw [hj'] at this
            cases this
            exact absurd q.2 (by simp [Slot.fin])
          · cases y with
            | p n l r => exact absurd q.2 (by simp [Slot.fin])
            | _ => cases hp
        · exact absurd rfl (hU _ q.1)
      | _ => cases hl
  · rw [List.filter_filter]
    refine Nat.le_trans ?_ (h.two i)
    exact fil_le _ _ (fun x hx => by simp at hx ⊢; exact hx.1) A
abbrev getMac0 : Mac := ⟨GetM, GetM.live, GetM.want, GetM.step⟩
theorem GRel.init1 {b s : Nat} {A : List (Slot × Nat)} {k H : Nat} {c : GetC} (hc : c.ok = true) (hb : c.b = b) (hs : c.s = s) : GRel b s A k H [] k (GetC.init c) := by
  have e : GetC.init c = ⟨c, .hd0, 0, 0, 0, [], false, 10⟩ := by unfold GetC.init; rw [hc]; rfl
  rw [e]
  exact ⟨hb, hs, hc, rfl, rfl, rfl, rfl, rfl, rfl⟩
/-- Rounds of gets and fixes: so much came out, so many rounds are done; is what stands first blocked? -/
structure Fixing (b s : Nat) (A0 : List (Slot × Nat)) (st : Prop) (bs : List Int) (out : List (Int × List Int)) (r : Nat) : Prop where
  ex : ∃ A k H, InvX True b s bs [] A k H [] ∧ mso 0 A = mso 0 A0 ∧ msgs A = msgs A0 ∧ ln A = ln A0 ∧ (∃ x, A.getLast? = some x ∧ x.1.fin = true) ∧ out = msgs (A.take k) ∧ (k = A.length ∨ nfin A + r ≤ nfin A0) ∧ (st → k = A.length ∨ ∃ x, A[k]? = some x ∧ x.1.fin = false)
theorem Fixing.get {b s : Nat} {A0 : List (Slot × Nat)} {st : Prop} {bs : List Int} {out : List (Int × List Int)} {r : Nat} (h : Fixing b s A0 st bs out r) (hs : ln A0 ≤ s) (c : GetC) (hcb : c.b = b) (hcs : c.s = s) (hok : c.ok = true) (hmost : ((msgs A0).length : Int) < c.most) :
    ∃ n bs' g', Runs getMac0 (GetC.init c) bs n g' bs' ∧ g'.live = false ∧ g'.e = 0 ∧ n ≤ s + s / 8 + 6 ∧ Fixing b s A0 True bs' (out ++ g'.out) r := by
  obtain ⟨A, k, H, hI, h1, h2, h3, h4, h5, h6, h7⟩ := h.ex
  have hso := hI.so
  obtain ⟨n, bs', k', H', g', e⟩ := get_ends (D := True) (A := A) (k0 := k) (by omega) (GetM.rem (GetC.init c)) hI (GRel.init1 (A := A) (k := k) (H := H) hok hcb hcs) (Nat.le_refl _)
  have hi : GetC.init c = ⟨c, .hd0, 0, 0, 0, [], false, 10⟩ := by unfold GetC.init; rw [hok]; rfl
  obtain ⟨d1, d2, d3, d4⟩ := e.rel.done e.fin
  have hrem : GetM.rem (GetC.init c) = (c.s + c.s / 8).toNat + 6 := by rw [hi]; rfl
  refine ⟨n, bs', g', e.runs, e.fin, d1, by have := e.few; omega, ⟨A, k', H', e.inv, h1, h2, h3, h4, ?_, ?_, fun _ => ?_⟩⟩
  · rw [d4, h5]
    conv => rhs; rw [← List.take_append_drop k (A.take k'), msgs_app, List.take_take, Nat.min_eq_left d3]
  · rcases h6 with q | q
    · left
      have := e.kk
      have := e.inv.kl
      omega
    · exact .inr q
  · have hw := e.why (by rw [hi]; rfl)
    rcases hw with q | q | ⟨q, q'⟩ | q
    · exact .inr q
    · exact .inl q
    · left
      have hfk := e.inv.fk
      rw [tot_nil, Nat.add_zero] at hfk
      have hle := ln_take_le A k'
      obtain ⟨x, hx⟩ := Nat.dvd_of_mod_eq_zero q
      have hx1 : 1 ≤ x := by
        rcases Nat.eq_zero_or_pos x with e0 | e0
        · rw [e0] at hx; omega
        · exact e0
      have hsx : s * 1 ≤ s * x := Nat.mul_le_mul_left s hx1
      exact ln_inj hI.ok e.inv.kl (Nat.le_refl _) (by rw [List.take_of_length_le (Nat.le_refl A.length)]; omega)
    · exfalso
      have hc : (GetC.init c).c = c := by rw [hi]
      rw [hc, d4] at q
      have h8 : (msgs A).length = (msgs ((A.take k').take k)).length + (msgs ((A.take k').drop k)).length + (msgs (A.drop k')).length := by
        conv => lhs; rw [← List.take_append_drop k' A, msgs_app, ← List.take_append_drop k (A.take k'), msgs_app]
        rw [List.length_append, List.length_append]
      rw [h2] at h8
      omega
theorem Fixing.fix {b s : Nat} {A0 : List (Slot × Nat)} {bs : List Int} {out : List (Int × List Int)} {r : Nat} (h : Fixing b s A0 True bs out r) (hs : ln A0 ≤ s) (c : FixC) (hcb : c.b = b) (hcs : c.s = s) (hok : rgOk c.b c.s = true) :
    ∃ n bs' m', Runs fixMac0 c.init bs n m' bs' ∧ m'.live = false ∧ n ≤ 2 * s ∧ Fixing b s A0 False bs' out (r + 1) := by
  obtain ⟨A, k, H, hI, h1, h2, h3, h4, h5, h6, h7⟩ := h.ex
  obtain ⟨n, bs', A', m', r1, r2, r3, r4, r5, r6⟩ := fix_ends hI (by omega) h4 c hcb hcs hok
  refine ⟨n, bs', m', r1, r2, r3, ⟨A', k, H, r4, r5.ms.trans h1, r5.mg.trans h2, r5.ln.trans h3, ?_, by rw [r5.tk]; exact h5, ?_, nofun⟩⟩
  · obtain ⟨x, hx, hf⟩ := h4
    exact ⟨x, r5.la x hx hf, hf⟩
  · rcases r6 with q | ⟨rfl, q⟩
    · rcases h6 with q' | q'
      · exfalso
        have hnone : A.drop k = [] := by rw [q']; exact List.drop_length
        have hfk := hI.fk
        have hfk' := r4.fk
        have hkl := r4.kl
        -- nothing stands behind: the fix did nothing
        have hl1 : Go.Proofs.YtknahaaefmlcpaaGreat.ln (A'.take k) = Go.Proofs.YtknahaaefmlcpaaGreat.ln A' := by
          rw [r5.tk, r5.ln, q', List.take_of_length_le (Nat.le_refl _)]
        have hk : k = A'.length := ln_inj r4.ok hkl (Nat.le_refl _) (by rw [List.take_of_length_le (Nat.le_refl A'.length)]; exact hl1)
        have e1 : A' = A := by
          have := r5.tk
          rw [List.take_of_length_le (by omega), List.take_of_length_le (by omega)] at this
          exact this
        rw [e1] at q
        omega
      · exact .inr (by omega)
    · rcases q with q | ⟨x, hx, hf⟩
      · exact .inl q
      · rcases h7 trivial with q' | ⟨y, hy, hf'⟩
        · exact .inl q'
        · rw [hx] at hy
          cases hy
          rw [hf] at hf'
          cases hf'
/-- After as many rounds all came out. -/
theorem Fixing.all {b s : Nat} {A0 : List (Slot × Nat)} {st : Prop} {bs : List Int} {out : List (Int × List Int)} {r : Nat} (h : Fixing b s A0 st bs out r) (hr : nfin A0 < r) : out = msgs A0 := by
  obtain ⟨A, k, H, hI, h1, h2, h3, h4, h5, h6, h7⟩ := h.ex
  rcases h6 with q | q
  · rw [h5, q, List.take_of_length_le (Nat.le_refl _), h2]
  · omega
end Go.Proofs.YtknahaaefmlcpaaGreat
