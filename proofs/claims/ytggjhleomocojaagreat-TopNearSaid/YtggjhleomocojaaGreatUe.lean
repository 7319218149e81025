/- A send alone, and hears alone behind it, on a broadcast where nobody is late. No program in sight. Conditions: none. -/
import Derived.Test.YtggjhleomocojaaGreatGb
import Derived.Test.YtggjhleomocojaaGreatNa
import Derived.Test.YtggjhleomocojaaGreatKe
import Derived.Test.YtggjhleomocojaaGreatQb
namespace Go.Proofs.YtggjhleomocojaaGreat
open Go.RowKit
set_option linter.unusedVariables false
set_option linter.unusedSimpArgs false
def bts (bs : List Int) (a n : Nat) : List Int := (bs.drop a).take n
theorem bts_rd (bs : List Int) (a n : Nat) : rdN bs a n = leN (bts bs a n) := rfl
theorem bts_len {bs : List Int} {a n : Nat} (h : a + n ≤ bs.length) : (bts bs a n).length = n := by unfold bts; simp; omega
theorem bts_at {bs : List Int} {a n i : Nat} (hi : i < n) : gB (bts bs a n) i = gB bs (a + i) := by
 unfold bts
 rw [gB_takeR _ _ _ hi, gB_drop]
theorem bts_far {bs ms : List Int} {a a' n : Nat} (h : a + ms.length ≤ bs.length) (hn : a' + n ≤ bs.length) (hd : a' + n ≤ a ∨ a + ms.length ≤ a') : bts (spl bs a ms) a' n = bts bs a' n := by
 have e := spl_len bs a ms h
 refine gB_ext (by rw [bts_len (by omega), bts_len hn]) (fun i hi => ?_)
 rw [bts_len (by omega)] at hi
 rw [bts_at hi, bts_at hi]
 rcases hd with hd | hd
 ·exact spl_lt bs a ms h _ (by omega)
 ·exact spl_ge bs a ms h _ (by omega)
variable {a : Nat}
theorem bts_same {bs ms : List Int} (h : a + ms.length ≤ bs.length) : bts (spl bs a ms) a ms.length = ms := by
 have e := spl_len bs a ms h
 refine gB_ext (by rw [bts_len (by omega)]) (fun i hi => ?_)
 rw [bts_len (by omega)] at hi
 rw [bts_at hi, spl_in bs a ms h _ (by omega) (by omega)]
 congr 1
 omega
theorem spl_two {bs x y : List Int} (h : a + x.length + y.length ≤ bs.length) : spl (spl bs a x) (a + x.length) y = spl bs a (x ++ y) := by
 have e := spl_len bs a x (by omega)
 have e1 := spl_len (spl bs a x) (a + x.length) y (by omega)
 have e2 := spl_len bs a (x ++ y) (by rw [List.length_append]; omega)
 refine gB_ext (by rw [e1, e, e2]) (fun i hi => ?_)
 rw [e1, e] at hi
 have hxy : a + (x ++ y).length ≤ bs.length := by rw [List.length_append]; omega
 by_cases c1 : i < a
 ·rw [spl_lt _ _ _ (by omega) _ (by omega), spl_lt _ _ _ (by omega) _ c1, spl_lt _ _ _ hxy _ c1]
 by_cases c2 : i < a + x.length
 ·rw [spl_lt _ _ _ (by omega) _ c2, spl_in _ _ _ (by omega) _ (by omega) c2, spl_in _ _ _ hxy _ (by omega) (by rw [List.length_append]; omega), gB_app1 _ _ _ (by omega)]
 by_cases c3 : i < a + x.length + y.length
 ·rw [spl_in _ _ _ (by omega) _ (by omega) c3, spl_in _ _ _ hxy _ (by omega) (by rw [List.length_append]; omega), gB_app2 _ _ _ (by omega)]
  congr 1
  omega
 ·rw [spl_ge _ _ _ (by omega) _ (by omega), spl_ge _ _ _ (by omega) _ (by omega), spl_ge _ _ _ hxy _ (by rw [List.length_append]; omega)]
theorem bts_take (bs : List Int) (a n k : Nat) (h : k ≤ n) : bts bs a n = bts bs a k ++ bts bs (a + k) (n - k) := by
 unfold bts
 rw [show n = k + (n - k) by omega, List.take_add, List.drop_drop, show k + (n - k) - k = n - k by omega]
variable {r : Nat}
theorem sen_step {m m' s' : SenM} {bs bs1 bs' : List Int} (hl : m.live = true) (he : m.want.err bs.length = 0) (ho : m.want.out bs = bs1) (hs : m.step (m.want.ans bs) = m') (h : Runs senMac m' bs1 r s' bs') : Runs senMac m bs (r + 1) s' bs' := by
 subst ho hs
 exact Runs.step (M := senMac) hl he h
variable {bs bs' : List Int}
theorem hea_step {m m' s' : HeaM} (hl : m.live = true) (he : m.want.err bs.length = 0) (ho : m.want.out bs = bs) (hs : m.step (m.want.ans bs) = m') (h : Runs heaMac m' bs r s' bs') : Runs heaMac m bs (r + 1) s' bs' := by
 subst hs
 have h2 := Runs.step (M := heaMac) (s := m) (bs := bs) (n := r) (s' := s') (bs' := bs') hl he
 rw [show (heaMac.want m).out bs = bs from ho] at h2
 exact h2 h
theorem sen_wb (c : PutC) (T e : Int) : ∀ (n : Nat) (l : List Int) (p : Nat) (bs : List Int), l.length ≤ n → l.length ≠ 0 → p + l.length ≤ bs.length →
  ∃ r, Runs senMac ⟨c, .wb p l, T, e⟩ bs r ⟨c, .la, T, e⟩ (spl bs p l) ∧ r ≤ n := by
 intro n
 induction n with
 | zero => intro l p bs h1 h2; omega
 | succ n ih =>
  intro l p bs h1 h2 h3
  have hk : (SenM.mk c (.wb p l) T e).want = ⟨6, p, min (l.length : Int) 8, 0, 0, l.take 8⟩ := rfl
  have hlt : (l.take 8).length = min 8 l.length := List.length_take
  have he : ((SenM.mk c (.wb p l) T e).want).err bs.length = 0 := by
   rw [hk]
   exact acE_at (.inr (.inr ⟨rfl, by show min (l.length : Int) 8 = ((l.take 8).length : Int); rw [hlt]; omega, by show min (l.length : Int) 8 ≤ 8; omega⟩)) (by show (0 : Int) ≤ (p : Int); omega) (by show (p : Int) + min (l.length : Int) 8 ≤ _; omega) (by show 0 ≤ min (l.length : Int) 8; omega) (fun h => by have h : (6 : Int) < 5 := h; omega)
  have ho : ((SenM.mk c (.wb p l) T e).want).out bs = spl bs p (l.take 8) := by
   rw [hk]
   show doB bs 6 (p : Int).toNat _ 0 0 (l.take 8) = _
   rw [Int.toNat_natCast]
   rfl
  by_cases h8 : l.length ≤ 8
  ·have ht : l.take 8 = l := List.take_of_length_le h8
   refine ⟨1, sen_step rfl he ho (m' := ⟨c, .la, T, e⟩) (by show SenM.mk c (if l.length ≤ 8 then .la else .wb ((p : Int) + 8) (l.drop 8)) T e = _; rw [if_pos h8]) ?_, by omega⟩
   rw [ht]
   exact .refl _ _
  ·have e2 := spl_len bs p (l.take 8) (by rw [hlt]; omega)
   obtain ⟨r, hr, hrn⟩ := ih (l.drop 8) (p + 8) (spl bs p (l.take 8)) (by simp; omega) (by simp; omega) (by rw [e2]; simp; omega)
   refine ⟨r + 1, sen_step rfl he ho (m' := ⟨c, .wb ((p + 8 : Nat) : Int) (l.drop 8), T, e⟩) (by show SenM.mk c (if l.length ≤ 8 then .la else .wb ((p : Int) + 8) (l.drop 8)) T e = _; rw [if_neg h8]; rfl) ?_, by omega⟩
   have e3 := spl_two (bs := bs) (x := l.take 8) (y := l.drop 8) (a := p) (by rw [hlt]; simp; omega)
   rw [show p + (l.take 8).length = p + 8 by rw [hlt]; omega, List.take_append_drop] at e3
   rw [← e3]
   exact hr
theorem hea_rd (b s cu nx la c pads : Int) (msg : Int × List Int) (heard : Bool) (e sz typ : Int) : ∀ (n : Nat) (k p : Nat) (hv bs : List Int), k ≤ n → k ≠ 0 → p + k ≤ bs.length →
  ∃ r, Runs heaMac ⟨b, s, .rd sz typ p k hv, cu, nx, la, c, pads, msg, heard, e⟩ bs r ⟨b, s, .bv sz typ (hv ++ bts bs p k), cu, nx, la, c, pads, msg, heard, e⟩ bs ∧ r ≤ n := by
 intro n
 induction n with
 | zero => intro k p hv bs h1 h2; omega
 | succ n ih =>
  intro k p hv bs h1 h2 h3
  have hk : (HeaM.mk b s (.rd sz typ p k hv) cu nx la c pads msg heard e).want = ⟨5, p, min (k : Int) 8, 0, 0, []⟩ := rfl
  have he : ((HeaM.mk b s (.rd sz typ p k hv) cu nx la c pads msg heard e).want).err bs.length = 0 := by
   rw [hk]
   exact acE_at (.inr (.inl ⟨rfl, by show 0 ≤ min (k : Int) 8; omega, by show min (k : Int) 8 ≤ 8; omega⟩)) (by show (0 : Int) ≤ (p : Int); omega) (by show (p : Int) + min (k : Int) 8 ≤ _; omega) (by show 0 ≤ min (k : Int) 8; omega) (fun h => by have h : (5 : Int) < 5 := h; omega)
  have ho : ((HeaM.mk b s (.rd sz typ p k hv) cu nx la c pads msg heard e).want).out bs = bs := rfl
  have hb : (((HeaM.mk b s (.rd sz typ p k hv) cu nx la c pads msg heard e).want).ans bs).b = bts bs p (min k 8) := by
   rw [hk]
   show (bs.drop (p : Int).toNat).take (min (k : Int) 8).toNat = _
   rw [Int.toNat_natCast, show (min (k : Int) 8).toNat = min k 8 by omega]
   rfl
  by_cases h8 : (k : Int) ≤ 8
  ·refine ⟨1, hea_step rfl he ho (m' := ⟨b, s, .bv sz typ (hv ++ bts bs p k), cu, nx, la, c, pads, msg, heard, e⟩) ?_ (.refl _ _), by omega⟩
   show (if (k : Int) ≤ 8 then _ else _) = _
   rw [if_pos h8, hb, show min k 8 = k by omega]
  ·obtain ⟨r, hr, hrn⟩ := ih (k - 8) (p + 8) (hv ++ bts bs p 8) bs (by omega) (by omega) (by omega)
   refine ⟨r + 1, hea_step rfl he ho (m' := ⟨b, s, .rd sz typ ((p + 8 : Nat) : Int) ((k - 8 : Nat) : Int) (hv ++ bts bs p 8), cu, nx, la, c, pads, msg, heard, e⟩) ?_ ?_, by omega⟩
   ·show (if (k : Int) ≤ 8 then _ else _) = _
    rw [if_neg h8, hb, show min k 8 = 8 by omega]
    have e1 : ((k - 8 : Nat) : Int) = (k : Int) - 8 := by omega
    rw [e1]
    rfl
   ·rw [bts_take bs p k 8 (by omega), ← List.append_assoc]
    exact hr
theorem sen_store {c : PutC} {pc pc' : SPc} {T T' e e' v : Int} {s' : SenM} (hw : (SenM.mk c pc T e).want = ⟨2, a, 8, v, 0, []⟩) (hl : (SenM.mk c pc T e).live = true) (ha : a + 8 ≤ bs.length) (h8 : a % 8 = 0) (hs : (SenM.mk c pc T e).step ((SenM.mk c pc T e).want.ans bs) = ⟨c, pc', T', e'⟩) (h : Runs senMac ⟨c, pc', T', e'⟩ (spl bs a (leB v 8)) r s' bs') : Runs senMac ⟨c, pc, T, e⟩ bs (r + 1) s' bs' := by
 refine sen_step hl ?_ ?_ hs h
 ·rw [hw]
  exact acE_at (.inl ⟨.inr (.inl rfl), .inr rfl⟩) (by show (0 : Int) ≤ (a : Int); omega) (by show (a : Int) + 8 ≤ _; omega) (by show (0 : Int) ≤ 8; decide) (fun _ => by show (a : Int) % 8 = 0; omega)
 ·rw [hw]
  show doB bs 2 (a : Int).toNat (8 : Int).toNat v 0 [] = _
  rw [Int.toNat_natCast]
  rfl
theorem hea_load {m m' s' : HeaM} (hw : m.want = ⟨1, a, 8, 0, 0, []⟩) (hl : m.live = true) (ha : a + 8 ≤ bs.length) (h8 : a % 8 = 0) (hs : ∀ x : AN, x.v = rdN bs a 8 → m.step x = m') (h : Runs heaMac m' bs r s' bs') : Runs heaMac m bs (r + 1) s' bs' := by
 refine hea_step hl ?_ ?_ (hs _ ?_) h
 ·rw [hw]
  exact acE_at (.inl ⟨.inl rfl, .inr rfl⟩) (by show (0 : Int) ≤ (a : Int); omega) (by show (a : Int) + 8 ≤ _; omega) (by show (0 : Int) ≤ 8; decide) (fun _ => by show (a : Int) % 8 = 0; omega)
 ·rw [hw]
  rfl
 ·rw [hw]
  show doV bs 1 (a : Int).toNat (8 : Int).toNat = _
  rw [Int.toNat_natCast]
  rfl
theorem leB8 (v : Int) : (leB v 8).length = 8 := leB_length v 8
structure Sent (c : PutC) (s : Nat) (T P : Nat) (bs : List Int) : Prop where
 is : IsB bs
 tail : rdN bs (s + 8) 8 = ((P + c.nd.toNat : Nat) : Int)
 int_ : rdN bs s 8 = ((P + c.nd.toNat : Nat) : Int)
 lat : rdN bs (s + 16) 8 = (P : Int)
 hd : rdN bs (P % s) 8 = recS c.n c.typ
 dat : bts bs (P % s + 8) c.d.length = c.d
 fit : P % s + c.nd.toNat ≤ s
 whr : P = T ∨ (P = T + (s - T % s) ∧ s - T % s < c.nd.toNat ∧ rdN bs (T % s) 8 = recS ((s - T % s : Nat) : Int) (-1))
theorem sen_rest (c : PutC) (s : Nat) (hs : c.s = s) (hb : c.b = 0) (hok : c.ok = true) (hd : IsB c.d) (P : Nat) (hP8 : P % 8 = 0) (hs8 : s % 8 = 0) (hs64 : 64 ≤ s) (hfit : P % s + c.nd.toNat ≤ s) (hn : 8 + c.d.length ≤ c.nd.toNat) (hPb : P ≤ 1000000) (hnb : c.nd.toNat ≤ 10000) (ht : 0 ≤ c.typ ∧ c.typ ≤ 2147483647) (bs : List Int) (hi : IsB bs) (hl : s + 24 ≤ bs.length) :
  ∃ bs' r, Runs senMac ⟨c, .wh ((P % s : Nat) : Int), P, 10⟩ bs r ⟨c, .done, P, 0⟩ bs' ∧ r ≤ c.d.length + 3 ∧ bs'.length = bs.length ∧ IsB bs' ∧ rdN bs' (s + 8) 8 = ((P + c.nd.toNat : Nat) : Int) ∧ rdN bs' s 8 = rdN bs s 8 ∧ rdN bs' (s + 16) 8 = (P : Int) ∧ rdN bs' (P % s) 8 = recS c.n c.typ ∧ bts bs' (P % s + 8) c.d.length = c.d ∧ ∀ a, (a + 8 ≤ P % s ∨ P % s + c.nd.toNat ≤ a) → a + 8 ≤ s → rdN bs' a 8 = rdN bs a 8 := by
 have hm := Nat.mod_lt P (show 0 < s by omega)
 have hp8 : P % s % 8 = 0 := by
  rw [Nat.mod_mod_of_dvd P (Nat.dvd_of_mod_eq_zero hs8)]
  exact hP8
 obtain ⟨p, hp⟩ : ∃ p, p = P % s := ⟨_, rfl⟩
 rw [← hp] at hfit hm hp8 ⊢
 have hnn : 0 ≤ recS c.n c.typ ∧ recS c.n c.typ ≤ 18446744073709551615 := by
  unfold recS PutC.n
  omega
 have hu : u64 ((P : Int) + c.nd) = ((P + c.nd.toNat : Nat) : Int) := by
  have : 0 ≤ c.nd := by
   unfold PutC.nd
   rw [if_pos hok]
   omega
  unfold u64
  omega
 -- behind the header
 have e1 := spl_len bs p (leB (recS c.n c.typ) 8) (by rw [leB8]; omega)
 obtain ⟨b1, hb1⟩ : ∃ b1, b1 = spl bs p (leB (recS c.n c.typ) 8) := ⟨_, rfl⟩
 rw [← hb1] at e1
 have i1 : IsB b1 := by rw [hb1]; exact spl_is hi (leB_is _ _)
 -- behind the bytes
 obtain ⟨b2, r2, hr2, hr2b, e2, i2, d2, f2⟩ : ∃ b2 r2, Runs senMac ⟨c, if c.d.length = 0 then .la else .wb (((p : Nat) : Int) + 8) c.d, P, 10⟩ b1 r2 ⟨c, .la, P, 10⟩ b2 ∧ r2 ≤ c.d.length ∧ b2.length = bs.length ∧ IsB b2 ∧ bts b2 (p + 8) c.d.length = c.d ∧ ∀ a n, (a + n ≤ p + 8 ∨ p + 8 + c.d.length ≤ a) → a + n ≤ bs.length → bts b2 a n = bts b1 a n := by
  by_cases h0 : c.d.length = 0
  ·refine ⟨b1, 0, by rw [if_pos h0]; exact .refl _ _, by omega, e1, i1, ?_, fun a n _ _ => rfl⟩
   rw [List.eq_nil_of_length_eq_zero h0]
   rfl
  ·obtain ⟨r, hr, hrn⟩ := sen_wb c P 10 c.d.length c.d (p + 8) b1 (Nat.le_refl _) h0 (by omega)
   refine ⟨spl b1 (p + 8) c.d, r, by rw [if_neg h0]; exact hr, hrn, by rw [spl_len _ _ _ (by omega), e1], spl_is i1 hd, bts_same (by omega), fun a n ha hb => bts_far (by omega) (by omega) (by omega)⟩
 -- the latest, the tail
 have e3 := spl_len b2 (s + 16) (leB (P : Int) 8) (by rw [leB8]; omega)
 obtain ⟨b3, hb3⟩ : ∃ b3, b3 = spl b2 (s + 16) (leB (P : Int) 8) := ⟨_, rfl⟩
 rw [← hb3] at e3
 have e4 := spl_len b3 (s + 8) (leB (((P + c.nd.toNat : Nat)) : Int) 8) (by rw [leB8]; omega)
 obtain ⟨b4, hb4⟩ : ∃ b4, b4 = spl b3 (s + 8) (leB (((P + c.nd.toNat : Nat)) : Int) 8) := ⟨_, rfl⟩
 rw [← hb4] at e4
 have far34 : ∀ a n, a + n ≤ s + 8 → bts b4 a n = bts b2 a n := fun a n h => by
  rw [hb4, bts_far (by rw [leB8]; omega) (by omega) (.inl h), hb3, bts_far (by rw [leB8]; omega) (by omega) (.inl (by omega))]
 refine ⟨b4, r2 + 2 + 1, ?_, by omega, by rw [e4, e3, e2], by rw [hb4, hb3]; exact spl_is (spl_is i2 (leB_is _ _)) (leB_is _ _), ?_, ?_, ?_, ?_, ?_, ?_⟩
 ·refine sen_store (a := p) (v := recS c.n c.typ) (pc' := if c.d.length = 0 then .la else .wb (((p : Nat) : Int) + 8) c.d) rfl rfl (by omega) hp8 rfl ?_
  rw [← hb1]
  refine hr2.trans (M := senMac) ?_
  refine sen_store (a := s + 16) (v := (P : Int)) (pc' := .ta) (T' := P) (e' := 10) ?_ rfl (by omega) (by omega) rfl ?_
  ·show (⟨2, c.b + c.s + 16, 8, (P : Int), 0, []⟩ : AA) = _
   rw [hb, hs, show (0 : Int) + (s : Int) + 16 = ((s + 16 : Nat) : Int) by omega]
  rw [← hb3]
  refine sen_store (a := s + 8) (v := ((P + c.nd.toNat : Nat) : Int)) (pc' := .done) (T' := P) (e' := 0) ?_ rfl (by omega) (by omega) rfl ?_
  ·show (⟨2, c.b + c.s + 8, 8, u64 ((P : Int) + c.nd), 0, []⟩ : AA) = _
   rw [hb, hs, hu, show (0 : Int) + (s : Int) + 8 = ((s + 8 : Nat) : Int) by omega]
  rw [← hb4]
  exact .refl _ _
 ·rw [hb4]
  exact rdN_num (by omega) (by omega) (by omega)
 ·rw [bts_rd, far34 _ _ (by omega), f2 _ _ (by omega) (by omega), hb1, bts_far (by rw [leB8]; omega) (by omega) (by rw [leB8]; omega)]
  rfl
 ·rw [hb4, rdN_far (by rw [leB8]; omega) (by rw [leB8]; omega), hb3]
  exact rdN_num (by omega) (by omega) (by omega)
 ·rw [bts_rd, far34 _ _ (by omega), f2 _ _ (.inl (by omega)) (by omega), ← bts_rd, hb1]
  exact rdN_num (by omega) hnn.1 hnn.2
 ·rw [far34 _ _ (by omega)]
  exact d2
 ·intro a ha has
  rw [bts_rd, far34 _ _ (by omega), f2 _ _ (by omega) (by omega), hb1, bts_far (by rw [leB8]; omega) (by omega) (by rw [leB8]; omega)]
  rfl
theorem sen_alone (c : PutC) (s : Nat) (hs : c.s = s) (hb : c.b = 0) (hok : c.ok = true) (hd : IsB c.d) (hs8 : s % 8 = 0) (hs64 : 64 ≤ s) (hs1024 : s ≤ 1024) (ht : c.typ ≤ 2147483647) (T : Nat) (hT8 : T % 8 = 0) (hTb : T ≤ 900000) (bs : List Int) (hi : IsB bs) (hl : s + 24 ≤ bs.length) (htl : rdN bs (s + 8) 8 = (T : Int)) :
  ∃ bs' r P, Runs senMac (SenM.init c) bs r ⟨c, .done, ((P : Nat) : Int), 0⟩ bs' ∧ r ≤ c.d.length + 6 ∧ bs'.length = bs.length ∧ Sent c s T P bs' := by
 have hm := Nat.mod_lt T (show 0 < s by omega)
 have hdl : (c.d.length : Int) ≤ (s : Int) / 8 ∧ 1 ≤ c.typ := by
  unfold PutC.ok at hok
  rw [hs] at hok
  simp at hok
  omega
 have hnd : c.nd = (((c.d.length + 15) / 8 * 8 : Nat) : Int) := by
  unfold PutC.nd
  rw [if_pos hok]
  omega
 obtain ⟨nd, hnde⟩ : ∃ nd, nd = (c.d.length + 15) / 8 * 8 := ⟨_, rfl⟩
 have hndn : c.nd.toNat = nd := by rw [hnd, hnde]; omega
 have hT8' : T % s % 8 = 0 := by
  rw [Nat.mod_mod_of_dvd T (Nat.dvd_of_mod_eq_zero hs8)]
  exact hT8
 have hmT : (T : Int) % (s : Int) = ((T % s : Nat) : Int) := by omega
 have hinit : SenM.init c = ⟨c, .tl, 0, 10⟩ := by
  have he0 : c.e0 = 10 := by
   unfold PutC.e0
   unfold PutC.ok at hok
   simp at hok
   obtain ⟨⟨h1, h2⟩, h3⟩ := hok
   rw [if_pos (by simp [h1, h2]), if_pos h3]
  unfold SenM.init
  rw [he0, if_pos hok]
 rw [hinit]
 have hw0 : (SenM.mk c .tl 0 10).want = ⟨1, ((s + 8 : Nat) : Int), 8, 0, 0, []⟩ := by
  show (⟨1, c.b + c.s + 8, 8, 0, 0, []⟩ : AA) = _
  rw [hb, hs, show (0 : Int) + (s : Int) + 8 = ((s + 8 : Nat) : Int) by omega]
 have he0 : ((SenM.mk c .tl 0 10).want).err bs.length = 0 := by
  rw [hw0]
  exact acE_at (.inl ⟨.inl rfl, .inr rfl⟩) (by show (0 : Int) ≤ ((s + 8 : Nat) : Int); omega) (by show ((s + 8 : Nat) : Int) + 8 ≤ _; omega) (by show (0 : Int) ≤ 8; decide) (fun _ => by show ((s + 8 : Nat) : Int) % 8 = 0; omega)
 have ho0 : ((SenM.mk c .tl 0 10).want).out bs = bs := by rw [hw0]; rfl
 have hv0 : (((SenM.mk c .tl 0 10).want).ans bs).v = (T : Int) := by
  rw [hw0]
  show doV bs 1 ((s + 8 : Nat) : Int).toNat (8 : Int).toNat = _
  rw [Int.toNat_natCast]
  exact htl
 have hst0 : (SenM.mk c .tl 0 10).step (((SenM.mk c .tl 0 10).want).ans bs) = ⟨c, if c.nd ≤ c.s - (T : Int) % c.s then .is else .ip, (T : Int), 10⟩ := by
  show SenM.mk c (if c.nd ≤ c.s - (((SenM.mk c .tl 0 10).want).ans bs).v % c.s then .is else .ip) (((SenM.mk c .tl 0 10).want).ans bs).v 10 = _
  rw [hv0]
 by_cases hc : nd ≤ s - T % s
 ·have hcc : c.nd ≤ c.s - (T : Int) % c.s := by rw [hs, hmT]; omega
  rw [if_pos hcc] at hst0
  obtain ⟨b1, hb1⟩ : ∃ b1, b1 = spl bs s (leB ((T + nd : Nat) : Int) 8) := ⟨_, rfl⟩
  have e1 : b1.length = bs.length := by rw [hb1]; exact spl_len _ _ _ (by rw [leB8]; omega)
  have i1 : IsB b1 := by rw [hb1]; exact spl_is hi (leB_is _ _)
  obtain ⟨b2, r, hr, hrb, e2, i2, q1, q2, q3, q4, q5, _⟩ := sen_rest c s hs hb hok hd T hT8 hs8 hs64 (by omega) (by omega) (by omega) (by omega) ⟨by omega, ht⟩ b1 i1 (by omega)
  refine ⟨b2, r + 1 + 1, T, sen_step rfl he0 ho0 hst0 ?_, by omega, by omega, ⟨i2, q1, ?_, q3, q4, q5, by omega, .inl rfl⟩⟩
  ·refine sen_store (a := s) (v := ((T + nd : Nat) : Int)) (pc' := .wh ((T % s : Nat) : Int)) (T' := T) (e' := 10) ?_ rfl (by omega) hs8 ?_ ?_
   ·show (⟨2, c.b + c.s, 8, u64 ((T : Int) + c.nd), 0, []⟩ : AA) = _
    rw [hb, hs, show (0 : Int) + (s : Int) = (s : Int) by omega, show u64 ((T : Int) + c.nd) = ((T + nd : Nat) : Int) by unfold u64; omega]
   ·show SenM.mk c (.wh (c.b + (T : Int) % c.s)) T 10 = _
    rw [hb, hs, hmT, Int.zero_add]
   ·rw [← hb1]
    exact hr
  ·rw [q2, hb1, hndn]
   exact rdN_num (by omega) (by omega) (by omega)
 ·have hcc : ¬ c.nd ≤ c.s - (T : Int) % c.s := by rw [hs, hmT]; omega
  rw [if_neg hcc] at hst0
  obtain ⟨P, hP⟩ : ∃ P, P = T + (s - T % s) := ⟨_, rfl⟩
  have hPm : P % s = 0 := by
   have h1 := Nat.div_add_mod T s
   have : P = s * (T / s + 1) := by rw [hP, Nat.mul_add]; omega
   rw [this]
   exact Nat.mul_mod_right _ _
  have hP8 : P % 8 = 0 := by omega
  obtain ⟨b1, hb1⟩ : ∃ b1, b1 = spl bs s (leB ((P + nd : Nat) : Int) 8) := ⟨_, rfl⟩
  have e1 : b1.length = bs.length := by rw [hb1]; exact spl_len _ _ _ (by rw [leB8]; omega)
  have i1 : IsB b1 := by rw [hb1]; exact spl_is hi (leB_is _ _)
  have hpn : 0 ≤ recS ((s - T % s : Nat) : Int) (-1) ∧ recS ((s - T % s : Nat) : Int) (-1) ≤ 18446744073709551615 := by unfold recS; omega
  obtain ⟨b2, hb2⟩ : ∃ b2, b2 = spl b1 (T % s) (leB (recS ((s - T % s : Nat) : Int) (-1)) 8) := ⟨_, rfl⟩
  have e2 : b2.length = bs.length := by rw [hb2, spl_len _ _ _ (by rw [leB8]; omega), e1]
  have i2 : IsB b2 := by rw [hb2]; exact spl_is i1 (leB_is _ _)
  obtain ⟨b3, r, hr, hrb, e3, i3, q1, q2, q3, q4, q5, q6⟩ := sen_rest c s hs hb hok hd P hP8 hs8 hs64 (by omega) (by omega) (by omega) (by omega) ⟨by omega, ht⟩ b2 i2 (by omega)
  have hgap : (SenM.mk c .ip (T : Int) 10).gap = ((s - T % s : Nat) : Int) := by
   show c.s - (T : Int) % c.s = _
   rw [hs, hmT]
   omega
  have hgap2 : (SenM.mk c .pd (T : Int) 10).gap = ((s - T % s : Nat) : Int) := hgap
  refine ⟨b3, r + 1 + 1 + 1, P, sen_step rfl he0 ho0 hst0 ?_, by omega, by omega, ⟨i3, q1, ?_, q3, q4, q5, by omega, .inr ⟨hP, by omega, ?_⟩⟩⟩
  ·refine sen_store (a := s) (v := ((P + nd : Nat) : Int)) (pc' := .pd) (T' := T) (e' := 10) ?_ rfl (by omega) hs8 rfl ?_
   ·show (⟨2, c.b + c.s, 8, u64 (u64 ((T : Int) + (SenM.mk c .ip (T : Int) 10).gap) + c.nd), 0, []⟩ : AA) = _
    rw [hgap, hb, hs, show (0 : Int) + (s : Int) = (s : Int) by omega, show u64 (u64 ((T : Int) + ((s - T % s : Nat) : Int)) + c.nd) = ((P + nd : Nat) : Int) by unfold u64; omega]
   ·rw [← hb1]
    refine sen_store (a := T % s) (v := recS ((s - T % s : Nat) : Int) (-1)) (pc' := .wh ((P % s : Nat) : Int)) (T' := P) (e' := 10) ?_ rfl (by omega) hT8' ?_ ?_
    ·show (⟨2, c.b + (T : Int) % c.s, 8, recS (SenM.mk c .pd (T : Int) 10).gap (-1), 0, []⟩ : AA) = _
     rw [hgap2, hb, hs, hmT, Int.zero_add]
    ·show SenM.mk c (.wh c.b) (u64 ((T : Int) + (SenM.mk c .pd (T : Int) 10).gap)) 10 = _
     rw [hgap2, hb, hPm, show u64 ((T : Int) + ((s - T % s : Nat) : Int)) = (P : Int) by unfold u64; omega]
     rfl
    ·rw [← hb2]
     exact hr
  ·rw [q2, hb2, rdN_far (by rw [leB8]; omega) (by rw [leB8]; omega), hb1, hndn]
   exact rdN_num (by omega) (by omega) (by omega)
  ·rw [q6 _ (.inr (by omega)) (by omega), hb2]
   exact rdN_num (by omega) hpn.1 hpn.2
theorem hea_found (c : PutC) (s : Nat) (hs8 : s % 8 = 0) (hs64 : 64 ≤ s) (hs1024 : s ≤ 1024) (ht : 1 ≤ c.typ ∧ c.typ ≤ 2147483647) (hn : c.nd.toNat = (c.d.length + 15) / 8 * 8) (hnd : 0 ≤ c.nd) (P : Nat) (hP8 : P % 8 = 0) (hPb : P ≤ 1000000) (bs : List Int) (hl : s + 24 ≤ bs.length) (h1 : rdN bs s 8 = ((P + c.nd.toNat : Nat) : Int)) (h2 : rdN bs (P % s) 8 = recS c.n c.typ) (h3 : bts bs (P % s + 8) c.d.length = c.d) (h4 : P % s + c.nd.toNat ≤ s) (h5 : c.nd.toNat < s) (cu nx la pads : Int) (msg : Int × List Int) :
  ∃ r, Runs heaMac ⟨0, s, .hd, cu, nx, la, (P : Int), pads, msg, false, 10⟩ bs r ⟨0, s, .done, (P : Int), ((P + c.nd.toNat : Nat) : Int), la, (P : Int), pads, (c.typ, c.d), true, 0⟩ bs ∧ r ≤ c.d.length + 3 := by
 have hm := Nat.mod_lt P (show 0 < s by omega)
 have hp8 : P % s % 8 = 0 := by
  rw [Nat.mod_mod_of_dvd P (Nat.dvd_of_mod_eq_zero hs8)]
  exact hP8
 have hmP : (P : Int) % (s : Int) = ((P % s : Nat) : Int) := by omega
 have hcn : c.n = ((8 + c.d.length : Nat) : Int) := by unfold PutC.n; omega
 have hlo : loS (recS c.n c.typ) = c.n := recS_lo _ _ (by omega) (by omega)
 have hhi : hiS (recS c.n c.typ) = c.typ := recS_hi _ _ (by omega) (by omega)
 have hrz : rsz c.n = (c.nd.toNat : Int) := by unfold rsz; omega
 have hpl : (HeaM.mk 0 s .hd cu nx la (P : Int) pads msg false 10).place = ((P % s : Nat) : Int) := hmP
 have hhd : (HeaM.mk 0 s .hd cu nx la (P : Int) pads msg false 10).head (recS c.n c.typ) = if c.n - 8 < 1 then ⟨0, s, .bv (c.nd.toNat : Int) c.typ [], cu, nx, la, (P : Int), pads, msg, false, 10⟩ else ⟨0, s, .rd (c.nd.toNat : Int) c.typ (((P % s + 8 : Nat)) : Int) ((c.d.length : Nat) : Int) [], cu, nx, la, (P : Int), pads, msg, false, 10⟩ := by
  unfold HeaM.head
  rw [hlo, hhi, hrz, hpl, if_neg (by show ¬ (c.n < 8 ∨ (s : Int) - ((P % s : Nat) : Int) < (c.nd.toNat : Int)); omega), if_neg (by omega)]
  rw [show (0 : Int) + ((P % s : Nat) : Int) + 8 = ((P % s + 8 : Nat) : Int) by omega, show c.n - 8 = ((c.d.length : Nat) : Int) by omega]
 have fin : ∀ l, Runs heaMac ⟨0, s, .bv (c.nd.toNat : Int) c.typ l, cu, nx, la, (P : Int), pads, msg, false, 10⟩ bs 1 ⟨0, s, .done, (P : Int), ((P + c.nd.toNat : Nat) : Int), la, (P : Int), pads, (c.typ, l), true, 0⟩ bs := by
  intro l
  refine hea_load (a := s) (by show (⟨1, (0 : Int) + (s : Int), 8, 0, 0, []⟩ : AA) = _; rw [Int.zero_add]) rfl (by omega) hs8 (fun x hx => ?_) (.refl _ _)
  have hov : ¬ (HeaM.mk 0 s (.bv (c.nd.toNat : Int) c.typ l) cu nx la (P : Int) pads msg false 10).over x.v := by
   show ¬ (s : Int) ≤ s64 (u64 (x.v - (P : Int)))
   rw [hx, h1]
   unfold s64 u64
   omega
  show (if (HeaM.mk 0 s (.bv (c.nd.toNat : Int) c.typ l) cu nx la (P : Int) pads msg false 10).over x.v then _ else _) = _
  rw [if_neg hov]
  show HeaM.mk 0 s .done (s64 (P : Int)) (s64 (s64 (P : Int) + (c.nd.toNat : Int))) la (P : Int) pads (c.typ, l) true 0 = _
  rw [show s64 (P : Int) = (P : Int) by unfold s64; omega, show s64 ((P : Int) + (c.nd.toNat : Int)) = ((P + c.nd.toNat : Nat) : Int) by unfold s64; omega]
 have hw : (HeaM.mk 0 s .hd cu nx la (P : Int) pads msg false 10).want = ⟨1, ((P % s : Nat) : Int), 8, 0, 0, []⟩ := by
  show (⟨1, (0 : Int) + (P : Int) % (s : Int), 8, 0, 0, []⟩ : AA) = _
  rw [hmP, Int.zero_add]
 by_cases h0 : c.d.length = 0
 ·rw [if_pos (by omega)] at hhd
  have hd0 : c.d = [] := List.eq_nil_of_length_eq_zero h0
  refine ⟨1 + 1, hea_load (a := P % s) hw rfl (by omega) hp8 (fun x hx => ?_) (fin []) |> fun h => by rw [hd0]; exact h, by omega⟩
  show (HeaM.mk 0 s .hd cu nx la (P : Int) pads msg false 10).head x.v = _
  rw [hx, h2]
  exact hhd
 ·rw [if_neg (by omega)] at hhd
  obtain ⟨r, hr, hrn⟩ := hea_rd 0 s cu nx la (P : Int) pads msg false 10 (c.nd.toNat : Int) c.typ c.d.length c.d.length (P % s + 8) [] bs (Nat.le_refl _) h0 (by omega)
  rw [h3, List.nil_append] at hr
  refine ⟨r + 1 + 1, hea_load (a := P % s) hw rfl (by omega) hp8 (fun x hx => ?_) (hr.trans (M := heaMac) (fin c.d)), by omega⟩
  show (HeaM.mk 0 s .hd cu nx la (P : Int) pads msg false 10).head x.v = _
  rw [hx, h2]
  exact hhd
end Go.Proofs.YtggjhleomocojaaGreat
namespace Go.Proofs.YtggjhleomocojaaGreat
open Go.RowKit
set_option linter.unusedVariables false
set_option linter.unusedSimpArgs false
theorem rsz_nat {g : Nat} (h : g % 8 = 0) : rsz (g : Int) = (g : Int) := by unfold rsz; omega
theorem hea_sent (c : PutC) (s : Nat) (hs : c.s = s) (hok : c.ok = true) (hs8 : s % 8 = 0) (hs64 : 64 ≤ s) (hs1024 : s ≤ 1024) (ht : c.typ ≤ 2147483647) (T P : Nat) (hT8 : T % 8 = 0) (hTb : T ≤ 900000) (bs : List Int) (hl : s + 24 ≤ bs.length) (h : Sent c s T P bs) (cu la : Int) :
  ∃ r pads, Runs heaMac ⟨0, s, .tl, cu, (T : Int), la, (T : Int), 0, (0, []), false, 10⟩ bs r ⟨0, s, .done, (P : Int), ((P + c.nd.toNat : Nat) : Int), la, (P : Int), pads, (c.typ, c.d), true, 0⟩ bs ∧ r ≤ c.d.length + 7 := by
 have hm := Nat.mod_lt T (show 0 < s by omega)
 have hdl : (c.d.length : Int) ≤ (s : Int) / 8 ∧ 1 ≤ c.typ := by
  unfold PutC.ok at hok
  rw [hs] at hok
  simp at hok
  omega
 have hnd : c.nd = (((c.d.length + 15) / 8 * 8 : Nat) : Int) := by
  unfold PutC.nd
  rw [if_pos hok]
  omega
 have hndn : c.nd.toNat = (c.d.length + 15) / 8 * 8 := by omega
 have hT8' : T % s % 8 = 0 := by
  rw [Nat.mod_mod_of_dvd T (Nat.dvd_of_mod_eq_zero hs8)]
  exact hT8
 have hfit := h.fit
 have tl : ∀ (pc' : HPc) (r' : Nat) (s' : HeaM), pc' = .va → Runs heaMac ⟨0, s, pc', cu, (T : Int), la, (T : Int), 0, (0, []), false, 10⟩ bs r' s' bs → T < P + c.nd.toNat → Runs heaMac ⟨0, s, .tl, cu, (T : Int), la, (T : Int), 0, (0, []), false, 10⟩ bs (r' + 1) s' bs := by
  intro pc' r' s' e hr hlt
  subst e
  refine hea_load (a := s + 8) (by show (⟨1, (0 : Int) + (s : Int) + 8, 8, 0, 0, []⟩ : AA) = _; rw [show (0 : Int) + (s : Int) + 8 = ((s + 8 : Nat) : Int) by omega]) rfl (by omega) (by omega) (fun x hx => ?_) hr
  show (if s64 (u64 (x.v - (T : Int))) ≤ 0 then _ else _) = _
  rw [hx, h.tail, if_neg (by unfold s64 u64; rcases h.whr with e | ⟨e, _⟩ <;> omega)]
 have va : ∀ (r' : Nat) (s' : HeaM), Runs heaMac ⟨0, s, .hd, cu, (T : Int), la, (T : Int), 0, (0, []), false, 10⟩ bs r' s' bs → P + c.nd.toNat < T + s → T < P + c.nd.toNat → Runs heaMac ⟨0, s, .va, cu, (T : Int), la, (T : Int), 0, (0, []), false, 10⟩ bs (r' + 1) s' bs := by
  intro r' s' hr hlt hlt2
  refine hea_load (a := s) (by show (⟨1, (0 : Int) + (s : Int), 8, 0, 0, []⟩ : AA) = _; rw [Int.zero_add]) rfl (by omega) hs8 (fun x hx => ?_) hr
  have hov : ¬ (HeaM.mk 0 s .va cu (T : Int) la (T : Int) 0 (0, []) false 10).over x.v := by
   show ¬ (s : Int) ≤ s64 (u64 (x.v - (T : Int)))
   rw [hx, h.int_]
   unfold s64 u64
   omega
  show (if (HeaM.mk 0 s .va cu (T : Int) la (T : Int) 0 (0, []) false 10).over x.v then _ else _) = _
  rw [if_neg hov]
 rcases h.whr with e | ⟨e, e1, e2⟩
 ·obtain ⟨r, hr, hrb⟩ := hea_found c s hs8 hs64 hs1024 ⟨hdl.2, ht⟩ hndn (by omega) P (by omega) (by omega) bs hl h.int_ h.hd h.dat h.fit (by omega) cu (T : Int) la 0 (0, [])
  rw [e] at hr
  refine ⟨r + 1 + 1, 0, ?_, by omega⟩
  rw [e]
  exact tl _ _ _ rfl (va _ _ hr (by omega) (by omega)) (by omega)
 ·have hPm : P % s = 0 := by
   have h1 := Nat.div_add_mod T s
   have : P = s * (T / s + 1) := by rw [e, Nat.mul_add]; omega
   rw [this]
   exact Nat.mul_mod_right _ _
  obtain ⟨r, hr, hrb⟩ := hea_found c s hs8 hs64 hs1024 ⟨hdl.2, ht⟩ hndn (by omega) P (by omega) (by omega) bs hl h.int_ h.hd h.dat h.fit (by omega) cu (T : Int) la 1 (0, [])
  refine ⟨r + 1 + 1 + 1 + 1, 1, tl _ _ _ rfl (va _ _ ?_ (by omega) (by omega)) (by omega), by omega⟩
  have hg8 : (s - T % s) % 8 = 0 := by clear hnd hndn hfit tl va e e1 e2 hPm hr hrb hdl; omega
  have hgs : s - T % s + T % s = s := by clear hnd hndn hfit tl va e e1 e2 hPm hr hrb hdl; omega
  have hg9 : 8 ≤ s - T % s := by clear hnd hndn hfit tl va e e1 e2 hPm hr hrb hdl; omega
  have hmT : (T : Int) % (s : Int) = ((T % s : Nat) : Int) := by omega
  have hlo : loS (recS ((s - T % s : Nat) : Int) (-1)) = ((s - T % s : Nat) : Int) := recS_lo _ _ (by omega) (by omega)
  have hhi : hiS (recS ((s - T % s : Nat) : Int) (-1)) = -1 := recS_hi _ _ (by omega) (by omega)
  have hrz : rsz ((s - T % s : Nat) : Int) = ((s - T % s : Nat) : Int) := rsz_nat hg8
  have hpl : (HeaM.mk 0 s .hd cu (T : Int) la (T : Int) 0 (0, []) false 10).place = ((T % s : Nat) : Int) := by show (T : Int) % (s : Int) = _; exact hmT
  refine hea_load (a := T % s) (m' := ⟨0, s, .pv ((s - T % s : Nat) : Int), cu, (T : Int), la, (T : Int), 0, (0, []), false, 10⟩) (by show (⟨1, (0 : Int) + (T : Int) % (s : Int), 8, 0, 0, []⟩ : AA) = _; rw [hmT, Int.zero_add]) rfl (by omega) hT8' (fun x hx => ?_) ?_
  ·show (HeaM.mk 0 s .hd cu (T : Int) la (T : Int) 0 (0, []) false 10).head x.v = _
   rw [hx, e2]
   unfold HeaM.head
   rw [hlo, hhi, hrz, hpl, if_neg (by show ¬ (((s - T % s : Nat) : Int) < 8 ∨ (s : Int) - ((T % s : Nat) : Int) < ((s - T % s : Nat) : Int)); omega), if_pos (show (-1 : Int) = -1 from rfl), if_neg (by show ¬ ((0 : Int) < 0 ∨ ((s - T % s : Nat) : Int) < (s : Int) - ((T % s : Nat) : Int)); omega)]
  ·refine hea_load (a := s) (by show (⟨1, (0 : Int) + (s : Int), 8, 0, 0, []⟩ : AA) = _; rw [Int.zero_add]) rfl (by omega) hs8 (fun x hx => ?_) hr
   have hov : ¬ (HeaM.mk 0 s (.pv ((s - T % s : Nat) : Int)) cu (T : Int) la (T : Int) 0 (0, []) false 10).over x.v := by
    show ¬ (s : Int) ≤ s64 (u64 (x.v - (T : Int)))
    rw [hx, h.int_]
    unfold s64 u64
    omega
   show (if (HeaM.mk 0 s (.pv ((s - T % s : Nat) : Int)) cu (T : Int) la (T : Int) 0 (0, []) false 10).over x.v then _ else _) = _
   rw [if_neg hov]
   show HeaM.mk 0 s .hd cu (T : Int) la (u64 ((T : Int) + ((s - T % s : Nat) : Int))) (0 + 1) (0, []) false 10 = _
   rw [show u64 ((T : Int) + ((s - T % s : Nat) : Int)) = (P : Int) by unfold u64; omega]
   rfl
end Go.Proofs.YtggjhleomocojaaGreat
namespace Go.Proofs.YtggjhleomocojaaGreat
open Go.RowKit
set_option linter.unusedVariables false
set_option linter.unusedSimpArgs false
theorem rel_run {t : RelT} {m m' : HeaM} {bs bs' : List Int} {n : Nat} {f : Option HeaM × RelT} (h : Runs heaMac m bs n m' bs') (hl : m.live = true) (hd : m'.live = false) (hf : relL (t.left.toNat + 2) (some m') t = f) : Runs relC.mac ((some m, t) : Option HeaM × RelT) bs n f bs' := by
 subst hf
 exact chain_runs relC (t := t) h hl hd (fun m2 h2 => relC.settle_live _ _ _ h2)
theorem rel_sent (c : PutC) (s : Nat) (hs : c.s = s) (hb : c.b = 0) (hok : c.ok = true) (hs8 : s % 8 = 0) (hs64 : 64 ≤ s) (hs1024 : s ≤ 1024) (ht : c.typ ≤ 2147483647) (T P : Nat) (hT8 : T % 8 = 0) (hTb : T ≤ 900000) (bs : List Int) (hl : s + 24 ≤ bs.length) (h : Sent c s T P bs) (cu : Int) :
  ∃ r, Runs relC.mac (relC.start (⟨0, s, ⟨cu, (T : Int), 0⟩, 2, [], 0⟩ : RelT)) bs r ((none, ⟨0, s, ⟨(P : Int), ((P + c.nd.toNat : Nat) : Int), 0⟩, 0, [((P : Int), (c.typ, c.d))], 0⟩) : Option HeaM × RelT) bs ∧ r ≤ c.d.length + 8 := by
 have hrg : rgOk 0 (s : Int) = true := by
  unfold PutC.ok at hok
  rw [hb, hs] at hok
  simp at hok
  exact hok.1.1
 obtain ⟨r, pads, hr, hrb⟩ := hea_sent c s hs hok hs8 hs64 hs1024 ht T P hT8 hTb bs hl h cu 0
 have hTT : ∀ x : EarV, HeaM.init 0 (s : Int) x = ⟨0, s, .tl, x.cu, x.nx, x.la, u64 x.nx, 0, (0, []), false, 10⟩ := fun x => if_pos hrg
 have hnn : 0 < c.nd.toNat := by
  unfold PutC.nd
  rw [if_pos hok]
  omega
 have hlt : P + c.nd.toNat ≤ 1000000 := by
  have := h.fit
  rcases h.whr with e | ⟨e, _⟩ <;> omega
 have e1 : relC.start (⟨0, s, ⟨cu, (T : Int), 0⟩, 2, [], 0⟩ : RelT) = ((some ⟨0, s, .tl, cu, (T : Int), 0, (T : Int), 0, (0, []), false, 10⟩, ⟨0, s, ⟨cu, (T : Int), 0⟩, 1, [], 0⟩) : Option HeaM × RelT) := by
  show relL 4 none (⟨0, s, ⟨cu, (T : Int), 0⟩, 2, [], 0⟩ : RelT) = _
  rw [relL_cons 4 (by show ¬ (2 : Int) < 1; decide), hTT, show u64 ((T : Int)) = (T : Int) by unfold u64; omega]
  exact relL_live 4 _ rfl
 rw [e1]
 obtain ⟨N, hN⟩ : ∃ N, N = P + c.nd.toNat := ⟨_, rfl⟩
 rw [← hN] at hr hlt ⊢
 have h1 : Runs relC.mac ((some ⟨0, s, .tl, cu, (T : Int), 0, (T : Int), 0, (0, []), false, 10⟩, ⟨0, s, ⟨cu, (T : Int), 0⟩, 1, [], 0⟩) : Option HeaM × RelT) bs r ((some ⟨0, s, .tl, (P : Int), ((N : Nat) : Int), 0, ((N : Nat) : Int), 0, (0, []), false, 10⟩, ⟨0, s, ⟨(P : Int), ((N : Nat) : Int), 0⟩, 0, [((P : Int), (c.typ, c.d))], 0⟩) : Option HeaM × RelT) bs := by
  refine rel_run hr rfl rfl ?_
  show relL 3 (some ⟨0, s, .done, (P : Int), ((N : Nat) : Int), 0, (P : Int), pads, (c.typ, c.d), true, 0⟩) (⟨0, s, ⟨cu, (T : Int), 0⟩, 1, [], 0⟩ : RelT) = _
  rw [relL_dead 2 _ rfl]
  show relL 2 none (⟨0, s, ⟨(P : Int), ((N : Nat) : Int), 0⟩, 1, [((P : Int), (c.typ, c.d))], 0⟩ : RelT) = _
  rw [relL_cons 2 (by show ¬ (1 : Int) < 1; decide), hTT, show u64 (((N : Nat) : Int)) = ((N : Nat) : Int) by unfold u64; omega]
  exact relL_live 2 _ rfl
 have hl2 : Runs heaMac ⟨0, s, .tl, (P : Int), ((N : Nat) : Int), 0, ((N : Nat) : Int), 0, (0, []), false, 10⟩ bs 1 ⟨0, s, .done, (P : Int), ((N : Nat) : Int), 0, ((N : Nat) : Int), 0, (0, []), false, 0⟩ bs := by
  refine hea_load (a := s + 8) (by show (⟨1, (0 : Int) + (s : Int) + 8, 8, 0, 0, []⟩ : AA) = _; rw [show (0 : Int) + (s : Int) + 8 = ((s + 8 : Nat) : Int) by omega]) rfl (by omega) (by omega) (fun x hx => ?_) (.refl _ _)
  show (if s64 (u64 (x.v - ((N : Nat) : Int))) ≤ 0 then _ else _) = _
  rw [hx, h.tail, ← hN, if_pos (by unfold s64 u64; omega)]
 have h2 : Runs relC.mac ((some ⟨0, s, .tl, (P : Int), ((N : Nat) : Int), 0, ((N : Nat) : Int), 0, (0, []), false, 10⟩, ⟨0, s, ⟨(P : Int), ((N : Nat) : Int), 0⟩, 0, [((P : Int), (c.typ, c.d))], 0⟩) : Option HeaM × RelT) bs 1 ((none, ⟨0, s, ⟨(P : Int), ((N : Nat) : Int), 0⟩, 0, [((P : Int), (c.typ, c.d))], 0⟩) : Option HeaM × RelT) bs := by
  refine rel_run hl2 rfl rfl ?_
  show relL 2 (some ⟨0, s, .done, (P : Int), ((N : Nat) : Int), 0, ((N : Nat) : Int), 0, (0, []), false, 0⟩) (⟨0, s, ⟨(P : Int), ((N : Nat) : Int), 0⟩, 0, [((P : Int), (c.typ, c.d))], 0⟩ : RelT) = _
  rw [relL_dead 1 _ rfl]
  exact relL_nil 1 (by show (0 : Int) < 1; decide)
 exact ⟨_, h1.trans (M := relC.mac) h2, by omega⟩
end Go.Proofs.YtggjhleomocojaaGreat
namespace Go.Proofs.YtggjhleomocojaaGreat
open Go.RowKit
set_option linter.unusedVariables false
set_option linter.unusedSimpArgs false
structure Mac.Hom (M' M : Mac) (f : M'.σ → M.σ) : Prop where
 live : ∀ s, M.live (f s) = M'.live s
 want : ∀ s, M.want (f s) = M'.want s
 step : ∀ s x, M.step (f s) x = f (M'.step s x)
def mapA {α β : Type} (f : α → β) (a : Ac α) : Ac β := ⟨a.m.map f, a.dead⟩
def mapS {α β : Type} (f : α → β) (S : SW α) : SW β := ⟨S.bs, S.cnt, S.acts.map (mapA f), S.clk, S.tr⟩
variable {M' M : Mac} {f : M'.σ → M.σ}
theorem Mac.Hom.stepA (h : Mac.Hom M' M f) (S : SW M'.σ) (i : Nat) (a : Ac M'.σ) : M.stepA (mapS f S) i (mapA f a) = (mapS f (M'.stepA S i a).1, (M'.stepA S i a).2) := by
 obtain ⟨m, d⟩ := a
 cases m with
 | none => rfl
 | some s =>
  unfold Mac.stepA
  simp only [mapA, Option.map_some, h.live, h.want, h.step]
  show (if M'.live s = false then _ else if (M'.want s).err S.bs.length = 0 then _ else _) = _
  by_cases h1 : M'.live s = false
  ·rw [if_pos h1, if_pos h1]
  ·rw [if_neg h1, if_neg h1]
   by_cases h2 : (M'.want s).err S.bs.length = 0
   ·rw [if_pos h2, if_pos h2]
    simp only [mapS, List.map_set]
    rfl
   ·rw [if_neg h2, if_neg h2]
    simp only [mapS, List.map_set]
    rfl
theorem Mac.Hom.act (h : Mac.Hom M' M f) (S : SW M'.σ) (k a : Int) : M.act (mapS f S) k a = (mapS f (M'.act S k a).1, (M'.act S k a).2) := by
 unfold Mac.act
 by_cases h1 : a < 0
 ·rw [if_pos h1, if_pos h1]
 ·rw [if_neg h1, if_neg h1]
  show (match (S.acts.map (mapA f))[a.toNat]? with | none => _ | some c => _) = _
  rw [List.getElem?_map]
  cases hc : S.acts[a.toNat]? with
  | none => rfl
  | some c =>
   simp only [Option.map_some]
   show (if c.dead = true then _ else if k = 1 then _ else _) = _
   by_cases h2 : c.dead = true
   ·rw [if_pos h2, if_pos h2]
   ·rw [if_neg h2, if_neg h2]
    by_cases h3 : k = 1
    ·rw [if_pos h3, if_pos h3]
     simp only [mapS, List.map_set]
     rfl
    ·rw [if_neg h3, if_neg h3]
     exact h.stepA S a.toNat c
theorem Mac.Hom.pick (h : Mac.Hom M' M f) (S : SW M'.σ) (k a n : Int) : M.pick (mapS f S) k a n = (mapS f (M'.pick S k a n).1, (M'.pick S k a n).2) := by
 unfold Mac.pick
 by_cases h1 : k = 2
 ·rw [if_pos h1, if_pos h1]
  unfold Mac.tick
  by_cases h2 : n < 0 ∨ 1099511627776 < n
  ·simp only [if_pos h2]
   rfl
  ·simp only [if_neg h2]
   rfl
 ·rw [if_neg h1, if_neg h1]
  by_cases h2 : k = 0 ∨ k = 1
  ·rw [if_pos h2, if_pos h2, h.act S k a]
   by_cases h3 : (M'.act S k a).2.2 = 0
   ·rw [if_pos h3, if_pos h3]
    rfl
   ·rw [if_neg h3, if_neg h3]
  ·rw [if_neg h2, if_neg h2]
theorem Mac.Hom.goesAt (h : Mac.Hom M' M f) (S : SW M'.σ) (i : Nat) : M.goesAt (mapS f S) i = M'.goesAt S i := by
 unfold Mac.goesAt
 show (match (S.acts.map (mapA f))[i]? with | none => _ | some a => _) = _
 rw [List.getElem?_map]
 cases hc : S.acts[i]? with
 | none => rfl
 | some c =>
  obtain ⟨m, d⟩ := c
  cases m with
  | none => rfl
  | some s =>
   show (M.live (f s) && !d) = (M'.live s && !d)
   rw [h.live]
theorem Mac.Hom.row (h : Mac.Hom M' M f) (most : Int) : ∀ (r : List Nat) (S : SW M'.σ) (n : Int) (g : Bool), M.row most r (mapS f S) n g = (mapS f (M'.row most r S n g).1, (M'.row most r S n g).2)
 | [], S, n, g => rfl
 | i :: r, S, n, g => by
  unfold Mac.row
  rw [h.goesAt]
  by_cases h1 : M'.goesAt S i = false
  ·rw [if_pos h1, if_pos h1]
   exact Mac.Hom.row h most r S n g
  ·rw [if_neg h1, if_neg h1]
   by_cases h2 : most ≤ n
   ·rw [if_pos h2, if_pos h2]
   ·rw [if_neg h2, if_neg h2, h.pick S 0 i 0]
    exact Mac.Hom.row h most r _ (n + 1) true
theorem Mac.Hom.rob (h : Mac.Hom M' M f) (most : Int) : ∀ (k : Nat) (S : SW M'.σ) (n : Int), M.rob most k (mapS f S) n = (mapS f (M'.rob most k S n).1, (M'.rob most k S n).2)
 | 0, S, n => rfl
 | k + 1, S, n => by
  unfold Mac.rob
  rw [show (mapS f S).acts.length = S.acts.length from List.length_map .., h.row]
  dsimp only
  split
  ·exact Mac.Hom.rob h most k _ _
  ·rfl
theorem Mac.Hom.robin (h : Mac.Hom M' M f) (most : Int) (S : SW M'.σ) : M.robin most (mapS f S) = (mapS f (M'.robin most S).1, (M'.robin most S).2) := h.rob most _ S 0
def tags {σ τ : Type} (g : σ → τ) (S : SW σ) : List (Option τ) := S.acts.map (fun a => a.m.map g)
theorem tags_set {σ τ : Type} (g : σ → τ) {l : List (Ac σ)} {i : Nat} {a a' : Ac σ} (h : l[i]? = some a) (e : a'.m.map g = a.m.map g) : (l.set i a').map (fun a => a.m.map g) = l.map (fun a => a.m.map g) := by
 rw [List.map_set, e]
 apply List.ext_getElem?
 intro j
 by_cases hj : i = j
 ·subst hj
  have hl := (List.getElem?_eq_some_iff.1 h).1
  rw [List.getElem?_set_self (by rw [List.length_map]; exact hl), List.getElem?_map, h]
  rfl
 ·rw [List.getElem?_set_ne hj]
variable {τ : Type} {g : M.σ → τ}
theorem stepA_tags (hg : ∀ s x, g (M.step s x) = g s) {S : SW M.σ} {i : Nat} {a : Ac M.σ} (h : S.acts[i]? = some a) : tags g (M.stepA S i a).1 = tags g S := by
 unfold Mac.stepA
 obtain ⟨m, d⟩ := a
 cases m with
 | none => rfl
 | some s =>
  dsimp only
  split
  ·rfl
  ·split
   ·exact tags_set g h (by show some (g (M.step s _)) = some (g s); rw [hg])
   ·exact tags_set g h rfl
theorem act_tags (hg : ∀ s x, g (M.step s x) = g s) (S : SW M.σ) (k a : Int) : tags g (M.act S k a).1 = tags g S := by
 unfold Mac.act
 split
 ·rfl
 ·split
  ·rfl
  ·rename_i c hc
   split
   ·rfl
   ·split
    ·exact tags_set g hc rfl
    ·exact stepA_tags hg hc
theorem pick_tags (hg : ∀ s x, g (M.step s x) = g s) (S : SW M.σ) (k a n : Int) : tags g (M.pick S k a n).1 = tags g S := by
 unfold Mac.pick Mac.tick
 split
 ·split <;> (dsimp only; split <;> rfl)
 ·split
  ·split
   ·exact act_tags hg S k a
   ·exact act_tags hg S k a
  ·rfl
theorem row_tags (hg : ∀ s x, g (M.step s x) = g s) (most : Int) : ∀ (r : List Nat) (S : SW M.σ) (n : Int) (b : Bool), tags g (M.row most r S n b).1 = tags g S
 | [], S, n, b => rfl
 | i :: r, S, n, b => by
  unfold Mac.row
  split
  ·exact row_tags hg most r S n b
  ·split
   ·rfl
   ·rw [row_tags hg most r _ (n + 1) true]
    exact pick_tags hg S 0 i 0
theorem rob_tags (hg : ∀ s x, g (M.step s x) = g s) (most : Int) : ∀ (k : Nat) (S : SW M.σ) (n : Int), tags g (M.rob most k S n).1 = tags g S
 | 0, S, n => rfl
 | k + 1, S, n => by
  unfold Mac.rob
  split
  ·rw [rob_tags hg most k _ _]
   exact row_tags hg most _ S n false
  ·exact row_tags hg most _ S n false
theorem robin_tags (hg : ∀ s x, g (M.step s x) = g s) (most : Int) (S : SW M.σ) : tags g (M.robin most S).1 = tags g S := rob_tags hg most _ S 0
end Go.Proofs.YtggjhleomocojaaGreat
namespace Go.Proofs.YtggjhleomocojaaGreat
set_option maxRecDepth 100000
open Go.RowKit
set_option linter.unusedVariables false
set_option linter.unusedSimpArgs false
structure Apart (w : World) (p c n : Nat) (Fs : Nat → Nat → Prop) : Prop where
 dj : ∀ i j b, Fs i b → Fs j b → i = j
 np : ∀ i, ¬ Fs i p
 nc : ∀ i, ¬ Fs i c
 lt : ∀ i b, Fs i b → b < w.heap.size ∧ i < n
def KdR (p c : Nat) (Fs : Nat → Nat → Prop) (κ : Nat → Kd) (N : Nat) : Prop := ∀ b, b < N → (∀ i, κ b = .ma i ↔ Fs i b) ∧ (κ b ≠ .no → b = p ∨ b = c ∨ ∃ i, Fs i b)
theorem Apart.kinds {w : World} {p c n : Nat} {Fs : Nat → Nat → Prop} (h : Apart w p c n Fs) : ∃ κ : Nat → Kd, (∀ i b, κ b = .ma i ↔ Fs i b) ∧ (∀ b, b = p ∨ b = c → κ b = .bu) ∧ (∀ b, κ b ≠ .no → b = p ∨ b = c ∨ ∃ i, Fs i b) ∧ ∀ k i, κ k ≠ .wo ∧ κ k ≠ .row ∧ κ k ≠ .ac i ∧ κ k ≠ .tr ∧ κ k ≠ .tb := by
 have hex : ∀ b, ∃ k : Kd, (∀ i, k = .ma i ↔ Fs i b) ∧ (b = p ∨ b = c → k = .bu) ∧ (k ≠ .no → b = p ∨ b = c ∨ ∃ i, Fs i b) ∧ ∀ i, k ≠ .wo ∧ k ≠ .row ∧ k ≠ .ac i ∧ k ≠ .tr ∧ k ≠ .tb := by
  intro b
  by_cases hb : b = p ∨ b = c
  ·refine ⟨.bu, fun i => ⟨fun e => (by cases e), fun e => ?_⟩, fun _ => rfl, fun _ => hb.elim .inl (fun e => .inr (.inl e)), fun i => ⟨nofun, nofun, nofun, nofun, nofun⟩⟩
   rcases hb with rfl | rfl
   ·exact absurd e (h.np i)
   ·exact absurd e (h.nc i)
  ·by_cases hx : ∃ j, Fs j b
   ·obtain ⟨j, hj⟩ := hx
    exact ⟨.ma j, fun i => ⟨fun e => (by injection e with e; exact e ▸ hj), fun e => (by rw [h.dj _ _ _ hj e])⟩, fun e => absurd e hb, fun _ => .inr (.inr ⟨j, hj⟩), fun i => ⟨nofun, nofun, nofun, nofun, nofun⟩⟩
   ·exact ⟨.no, fun i => ⟨fun e => (by cases e), fun e => absurd ⟨i, e⟩ hx⟩, fun e => absurd e hb, fun e => absurd rfl e, fun i => ⟨nofun, nofun, nofun, nofun, nofun⟩⟩
 obtain ⟨κ, hκ⟩ := Classical.axiomOfChoice hex
 exact ⟨κ, fun i b => (hκ b).1 i, fun b => (hκ b).2.1, fun b => (hκ b).2.2.1, fun k i => (hκ k).2.2.2 i⟩
theorem rowNew (C : Fam) {w : World} {p c n : Nat} {cnt : Int} {bs : List Int} {Fs : Nat → Nat → Prop} {g off lc : Nat} {mv : Nat → Value} {ms : List (Option C.M.σ)} (hB : Buf w p c cnt bs) (hA : Apart w p c n Fs) (hms : ms.length = n) (h0 : 0 < n) (hn : n ≤ 1000) (hlc : n ≤ lc) (hlm : lc ≤ maxLen) (hg : ∀ i, i < n → w.cell? ⟨g, off + i, none⟩ = some (mv i)) (hif : ∀ i, i < n → (mv i).oneCell' = true) (hm : ∀ i m, ms[i]? = some m → McIn C w (Fs i) (mv i) m) :
  Calls Tryz.prog 11 #[.pointer (some ⟨p, 0, none⟩), .slice (some ⟨g, off, none⟩) n lc] w fun e w' => ∃ W κ av ab, e = .returned (.pointer (some ⟨W, 0, none⟩)) ∧ WoIn C w' κ W p c av nilSl ab ⟨bs, cnt, ms.map fun m => ⟨m, false⟩, 0, []⟩ ∧ KdR p c Fs κ w.heap.size ∧ w.heap.size ≤ W ∧ Below w.heap.size w w' := by
 obtain ⟨κ, k1, k2, k3, k4⟩ := hA.kinds
 refine (wNew_any C w κ p c cnt bs n mv ms g off lc h0 hlc hlm hB (k2 p (.inl rfl)) (k2 c (.inr rfl)) hms (by omega) hg hif ?_ ?_ k4).mono ?_
 ·intro i m hi
  have h1 := hm i m hi
  cases m with
  | none => exact h1
  | some s =>
   obtain ⟨q, e, h2⟩ := h1
   exact ⟨q, e, C.mono h2 (fun b hb => (k1 i b).2 hb) (fun b hb => (hA.lt i b ((k1 i b).1 hb)).1)⟩
 ·intro k hk
  rcases k3 k hk with rfl | rfl | ⟨i, hi⟩
  ·exact hB.hd.lt
  ·exact Blk.lt hB.wd
  ·exact (hA.lt i k hi).1
 ·rintro e w' ⟨W, κ', av, ab, rfl, hW, hκ, hWs, bb⟩
  exact ⟨W, κ', av, ab, rfl, hW, fun b hb => by rw [hκ b hb]; exact ⟨fun i => k1 i b, k3 b⟩, hWs, bb⟩
theorem duoRun (C : Fam) {w : World} {p c : Nat} {cnt : Int} {bs : List Int} {F1 F2 : Nat → Prop} {q1 q2 g : Nat} {s1 s2 : C.M.σ} (hB : Buf w p c cnt bs) (h1 : C.inv w F1 q1 s1) (h2 : C.inv w F2 q2 s2) (np : ¬ F1 p ∧ ¬ F2 p) (nc : ¬ F1 c ∧ ¬ F2 c) (dj : ∀ b, F1 b → ¬ F2 b) (hg : Blk w g [.iface (C.ty s1) (ptr q1), .iface (C.ty s2) (ptr q2)]) (most : Int) (hm : most ≤ 900000) (hc0 : 0 ≤ cnt) (hc1 : cnt ≤ 1000000000000) :
  Calls Tryz.prog 11 #[.pointer (some ⟨p, 0, none⟩), .slice (some ⟨g, 0, none⟩) 2 2] w fun e wn => ∃ W, e = .returned (.pointer (some ⟨W, 0, none⟩)) ∧ w.heap.size ≤ W ∧ Below w.heap.size w wn ∧ Calls Tryz.prog 12 #[.pointer (some ⟨W, 0, none⟩), .int .i64 most] wn fun e w' => (∃ k, e = .returned (.int .i64 k)) ∧
   (∃ κ av tv ab, WoIn C w' κ W p c av tv ab (C.M.robin most ⟨bs, cnt, [⟨some s1, false⟩, ⟨some s2, false⟩], 0, []⟩).1) ∧ Keep (fun i => i = p ∨ i = c ∨ F1 i ∨ F2 i) w w' := by
 have hA : Apart w p c 2 (fun i b => (i = 0 ∧ F1 b) ∨ (i = 1 ∧ F2 b)) := by
  refine ⟨fun i j b hi hj => ?_, fun i => ?_, fun i => ?_, fun i b hb => ?_⟩
  ·rcases hi with ⟨rfl, hi⟩ | ⟨rfl, hi⟩ <;> rcases hj with ⟨rfl, hj⟩ | ⟨rfl, hj⟩
   ·rfl
   ·exact absurd hj (dj b hi)
   ·exact absurd hi (dj b hj)
   ·rfl
  ·rintro (⟨_, h⟩ | ⟨_, h⟩)
   ·exact np.1 h
   ·exact np.2 h
  ·rintro (⟨_, h⟩ | ⟨_, h⟩)
   ·exact nc.1 h
   ·exact nc.2 h
  ·rcases hb with ⟨rfl, hb⟩ | ⟨rfl, hb⟩
   ·exact ⟨(C.dom h1).2 b hb, by omega⟩
   ·exact ⟨(C.dom h2).2 b hb, by omega⟩
 refine (rowNew C (mv := fun i => if i = 0 then .iface (C.ty s1) (ptr q1) else .iface (C.ty s2) (ptr q2)) (ms := [some s1, some s2]) (off := 0) (n := 2) hB hA rfl (by decide) (by decide) (Nat.le_refl _) (by unfold maxLen; omega) ?_ ?_ ?_).mono ?_
 ·intro i hi
  match i, hi with
  | 0, _ => exact hg.cell 0
  | 1, _ => exact hg.cell 1
 ·intro i hi
  show (if i = 0 then _ else _ : Value).oneCell' = true
  split <;> rfl
 ·intro i m hi
  match i, hi with
  | 0, hi =>
   cases (show some (some s1) = some m from hi)
   exact ⟨q1, rfl, C.mono h1 (fun b hb => .inl ⟨rfl, hb⟩) (fun b hb => by rcases hb with ⟨_, hb⟩ | ⟨e, _⟩; exact (C.dom h1).2 b hb; cases e)⟩
  | 1, hi =>
   cases (show some (some s2) = some m from hi)
   exact ⟨q2, rfl, C.mono h2 (fun b hb => .inr ⟨rfl, hb⟩) (fun b hb => by rcases hb with ⟨e, _⟩ | ⟨_, hb⟩; cases e; exact (C.dom h2).2 b hb)⟩
  | i + 2, hi => simp at hi
 ·rintro e wn ⟨W, κ, av, ab, rfl, hW, hκ, hWs, bb⟩
  refine ⟨W, rfl, hWs, bb, (wRobin_any hW most hm hc0 hc1 (by simp) (by simp)).mono ?_⟩
  rintro e w' ⟨rfl, κ', tv', h', hκ', kp⟩
  refine ⟨⟨_, rfl⟩, ⟨κ', av, tv', ab, h'⟩, (Below.keeps bb).then (kp.mono (fun i _ e => e)) (fun i hi hn => ?_)⟩
  rcases (hκ i hi).2 hn with h | h | ⟨j, ⟨_, h⟩ | ⟨_, h⟩⟩
  ·exact .inl h
  ·exact .inr (.inl h)
  ·exact .inr (.inr (.inl h))
  ·exact .inr (.inr (.inr h))
end Go.Proofs.YtggjhleomocojaaGreat
