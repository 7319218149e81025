/- A put's writes into its slot, step by step. No program in sight. Conditions: none. -/
import Derived.Test.YtpicplkbblmbeaaRc
import Derived.Test.YtpicplkbblmbeaaQb
namespace Go.Proofs.Ytpicplkbblmbeaa
open Go.RowKit
set_option linter.unusedVariables false
theorem acE_at {size k a n l : Int} (hk : (k = 1 ∨ k = 2 ∨ k = 4) ∧ (n = 4 ∨ n = 8) ∨ k = 5 ∧ 0 ≤ n ∧ n ≤ 8 ∨ k = 6 ∧ n = l ∧ n ≤ 8) (h0 : 0 ≤ a) (h1 : a + n ≤ size) (hn0 : 0 ≤ n) (hal : k < 5 → a % n = 0) : acE size k a n l = 0 := by
  have hs : acSized k n l = true := by
    unfold acSized
    rcases hk with ⟨hk, hn⟩ | ⟨rfl, hn, hn'⟩ | ⟨rfl, rfl, hn'⟩
    · rw [if_pos hk]
      rcases hn with rfl | rfl <;> decide
    · simp [hn, hn']
    · simp [hn']
  unfold acE
  rw [if_neg (by rw [hs]; nofun), if_neg (by omega), if_neg (by intro ⟨h, h'⟩; exact h' (hal h))]
/-- What a put's ring holds, and where its own slot stands. -/
structure Own (bs : List Int) (c : PutC) (b s H : Nat) (L : List (List Int)) (k : Nat) (a : Int) (ct : List Int) : Prop where
  rg : Rg bs b s H L
  hk : k < L.length
  con : L[k] = ct
  cl : (ct.length : Int) = c.nd
  at_ : a = b + ((H + tot (L.take k)) % s : Nat)
  cp : rdN bs (b + s + 8) 8 = 0
theorem Own.set {bs bs' : List Int} {c : PutC} {b s H : Nat} {L : List (List Int)} {k : Nat} {a : Int} {ct ms : List Int} (h : Own bs c b s H L k a ct) (x : Nat) (hx : x + ms.length ≤ ct.length) (hx0 : x < ct.length) (hms : IsB ms) (hb : bs' = spl bs (a + x).toNat ms) :
    Own bs' c b s H (L.set k (spl ct x ms)) k a (spl ct x ms) := by
  obtain ⟨h1, h2, h3, h4, h5, h6⟩ := h
  subst h3
  have hcr := h1.cross k h2
  have hln := h1.len
  have hw := h1.write k h2 x ms hx hx0 hms
  have e1 : (a + x).toNat = b + ((H + tot (L.take k)) % s + x) := by omega
  rw [e1] at hb
  rw [← hb] at hw
  refine ⟨hw, by simpa using h2, by simp, by rw [spl_len _ _ _ hx]; exact h4, ?_, ?_⟩
  · rw [h5, List.take_set, List.set_eq_of_length_le (by simp; omega)]
  · rw [hb, rdN_far (by omega) (.inr (by omega))]
    exact h6
/-- Its place's bounds. -/
theorem Own.bd {bs : List Int} {c : PutC} {b s H : Nat} {L : List (List Int)} {k : Nat} {a : Int} {ct : List Int} (h : Own bs c b s H L k a ct) : (b : Int) ≤ a ∧ a + ct.length ≤ b + s ∧ b + s + 24 ≤ bs.length := by
  obtain ⟨h1, h2, h3, h4, h5, h6⟩ := h
  subst h3
  have := h1.cross k h2
  have := h1.len
  omega
theorem put_step {m m' s' : PutM} {bs bs1 bs' : List Int} {r : Nat} (hl : m.live = true) (he : m.want.err bs.length = 0) (ho : m.want.out bs = bs1) (hs : m.step (m.want.ans bs) = m') (h : Runs putMac m' bs1 r s' bs') : Runs putMac m bs (r + 1) s' bs' := by
  subst ho hs
  exact Runs.step (M := putMac) hl he h
/-- The bytes are written. -/
theorem wb_runs (c : PutC) (b s H : Nat) (hd P : Int) (k : Nat) (a : Int) (hok : c.ok = true) (hdB : IsB c.d) : ∀ (n : Nat) (l : List Int) (bs : List Int) (L : List (List Int)), l.length ≤ n → l.length ≠ 0 → l = c.d.drop (c.d.length - l.length) →
    Own bs c b s H L k a (rcB (recS (-c.n) c.typ) (c.d.take (c.d.length - l.length)) c.nd.toNat) →
    ∃ bs' r, Runs putMac ⟨c, .wb a (a + 8 + (c.d.length - l.length : Nat)) l, hd, P, true, 10⟩ bs r ⟨c, .fi a, hd, P, true, 10⟩ bs' ∧ r ≤ n ∧ Own bs' c b s H (L.set k (rcB (recS (-c.n) c.typ) c.d c.nd.toNat)) k a (rcB (recS (-c.n) c.typ) c.d c.nd.toNat) := by
  intro n
  induction n with
  | zero => intro l bs L h1 h2; omega
  | succ n ih =>
    intro l bs L h1 h2 h3 h4
    obtain ⟨q1, q2, q3⟩ := PutC.nd_bd hok
    have hll : l.length ≤ c.d.length := by
      have := congrArg List.length h3
      simp at this
      omega
    obtain ⟨j, hj⟩ : ∃ j, j = c.d.length - l.length := ⟨_, rfl⟩
    rw [← hj] at h3 h4 ⊢
    have hct : (rcB (recS (-c.n) c.typ) (c.d.take j) c.nd.toNat).length = c.nd.toNat := rcB_len (by simp; omega)
    have hbd := h4.bd
    rw [hct] at hbd
    have h8 : 8 + c.d.length ≤ c.nd.toNat := by omega
    have hw : (PutM.mk c (.wb a (a + 8 + (j : Nat)) l) hd P true 10).want = ⟨6, a + 8 + (j : Nat), min l.length 8, 0, 0, l.take 8⟩ := rfl
    have he : ((PutM.mk c (.wb a (a + 8 + (j : Nat)) l) hd P true 10).want).err bs.length = 0 := by
      rw [hw]
      unfold AA.err
      dsimp only
      refine acE_at (.inr (.inr ⟨rfl, ?_, by omega⟩)) (by omega) (by omega) (by omega) (by omega)
      simp
      omega
    have hlt : (l.take 8).length = min 8 l.length := by simp
    have hout : ((PutM.mk c (.wb a (a + 8 + (j : Nat)) l) hd P true 10).want).out bs = spl bs (a + (8 + j : Nat)).toNat ((c.d.drop j).take 8) := by
      rw [hw, ← h3]
      unfold AA.out doB
      dsimp only
      rw [if_neg (by omega), if_neg (by omega), if_neg (by omega), if_pos rfl]
      congr 1
      omega
    have hstep : (PutM.mk c (.wb a (a + 8 + (j : Nat)) l) hd P true 10).step (((PutM.mk c (.wb a (a + 8 + (j : Nat)) l) hd P true 10).want).ans bs) = if l.length ≤ 8 then ⟨c, .fi a, hd, P, true, 10⟩ else ⟨c, .wb a (a + 8 + (j : Nat) + 8) (l.drop 8), hd, P, true, 10⟩ := rfl
    have hset := h4.set (bs' := spl bs (a + (8 + j : Nat)).toNat ((c.d.drop j).take 8)) (8 + j) (ms := (c.d.drop j).take 8) (by rw [hct]; simp; omega) (by rw [hct]; omega) ((hdB.drop _).take _) rfl
    rw [spl_body _ _ _ _ h8 (by omega)] at hset
    by_cases hle : l.length ≤ 8
    · have e1 : c.d.take (j + 8) = c.d := List.take_of_length_le (by omega)
      rw [e1] at hset
      rw [if_pos hle] at hstep
      exact ⟨_, 1, put_step rfl he hout hstep (.refl _ _), by omega, hset⟩
    · rw [if_neg hle] at hstep
      have hd8 : (l.drop 8).length = l.length - 8 := by simp
      have ej : c.d.length - (l.drop 8).length = j + 8 := by omega
      have hrec := ih (l.drop 8) (spl bs (a + (8 + j : Nat)).toNat ((c.d.drop j).take 8)) _ (by omega) (by omega) (by rw [ej]; rw [h3, List.drop_drop]) (by rw [ej]; exact hset)
      obtain ⟨bs', r, hr, hrn, ho⟩ := hrec
      refine ⟨bs', r + 1, ?_, by omega, ?_⟩
      · rw [ej] at hr
        have e9 : a + 8 + ((j + 8 : Nat) : Int) = a + 8 + (j : Nat) + 8 := by omega
        rw [e9] at hr
        exact put_step rfl he hout hstep hr
      · rw [List.set_set] at ho
        exact ho
theorem rcB_is {hd : Int} {d : List Int} {N : Nat} (h : IsB d) : IsB (rcB hd d N) := by
  unfold rcB
  refine (leB_is _ _).append (h.append ?_)
  intro x hx
  simp [zs] at hx
  omega
theorem Own.cast {bs : List Int} {c : PutC} {b s H : Nat} {L : List (List Int)} {k : Nat} {a : Int} {ct ct' : List Int} (h : Own bs c b s H L k a ct) (e : ct = ct') : Own bs c b s H L k a ct' := e ▸ h
/-- The record is written, from its claim on. -/
theorem wh_runs (c : PutC) (b s H : Nat) (hd P : Int) (k : Nat) (a : Int) (hok : c.ok = true) (hdB : IsB c.d) (ha : a % 8 = 0) (bs : List Int) (L : List (List Int)) (h : Own bs c b s H L k a (zs c.nd.toNat)) :
    ∃ bs' r, Runs putMac ⟨c, .wh a, hd, P, true, 10⟩ bs r ⟨c, .done, hd, P, true, 0⟩ bs' ∧ r ≤ c.d.length + 3 ∧ Own bs' c b s H (L.set k (rcB (recS c.n c.typ) c.d c.nd.toNat)) k a (rcB (recS c.n c.typ) c.d c.nd.toNat) := by
  obtain ⟨q1, q2, q3⟩ := PutC.nd_bd hok
  have h8 : 8 + c.d.length ≤ c.nd.toNat := by omega
  have hbd := h.bd
  rw [zs_len] at hbd
  have hcn : c.n = 8 + c.d.length := rfl
  obtain ⟨o1, o2, o3⟩ := PutC.ok_bd hok
  obtain ⟨-, g2, g3, -, -, -⟩ := rgOk_bd o1
  -- the header
  have he : ((PutM.mk c (.wh a) hd P true 10).want).err bs.length = 0 := by
    show acE bs.length 2 a 8 0 = 0
    exact acE_at (.inl ⟨.inr (.inl rfl), .inr rfl⟩) (by omega) (by omega) (by omega) (fun _ => ha)
  have l8 := leB_length (recS (-c.n) c.typ) 8
  have hout : ((PutM.mk c (.wh a) hd P true 10).want).out bs = spl bs (a + (0 : Nat)).toNat (leB (recS (-c.n) c.typ) 8) := by
    show spl bs a.toNat (leB (recS (-c.n) c.typ) 8) = _
    congr 1
    omega
  have hset := (h.set 0 (ms := leB (recS (-c.n) c.typ) 8) (by rw [zs_len]; omega) (by rw [zs_len]; omega) (leB_is _ _) rfl)
  rw [spl_head _ (by omega)] at hset
  obtain ⟨bs1, hbs1⟩ : ∃ bs1, bs1 = spl bs (a + (0 : Nat)).toNat (leB (recS (-c.n) c.typ) 8) := ⟨_, rfl⟩
  rw [← hbs1] at hset hout
  -- the end
  have fin : ∀ (bs2 : List Int) (L2 : List (List Int)), Own bs2 c b s H L2 k a (rcB (recS (-c.n) c.typ) c.d c.nd.toNat) → ∃ bs', Runs putMac ⟨c, .fi a, hd, P, true, 10⟩ bs2 1 ⟨c, .done, hd, P, true, 0⟩ bs' ∧ Own bs' c b s H (L2.set k (rcB (recS c.n c.typ) c.d c.nd.toNat)) k a (rcB (recS c.n c.typ) c.d c.nd.toNat) := by
    intro bs2 L2 h2
    have hct : (rcB (recS (-c.n) c.typ) c.d c.nd.toNat).length = c.nd.toNat := rcB_len h8
    have hbd2 := h2.bd
    rw [hct] at hbd2
    have l4 := leB_length c.n 4
    have hs2 := (h2.set 0 (ms := leB c.n 4) (by rw [hct]; omega) (by rw [hct]; omega) (leB_is _ _) rfl)
    rw [spl_whole _ _ _ _ _ h8 (by omega) (by omega)] at hs2
    refine ⟨_, put_step rfl ?_ ?_ rfl (.refl _ _), hs2⟩
    · show acE bs2.length 2 a 4 0 = 0
      exact acE_at (.inl ⟨.inr (.inl rfl), .inl rfl⟩) (by omega) (by omega) (by omega) (fun _ => by omega)
    · show spl bs2 a.toNat (leB c.n 4) = _
      congr 1
      omega
  have hst : (PutM.mk c (.wh a) hd P true 10).step (((PutM.mk c (.wh a) hd P true 10).want).ans bs) = if c.d.length = 0 then ⟨c, .fi a, hd, P, true, 10⟩ else ⟨c, .wb a (a + 8) c.d, hd, P, true, 10⟩ := rfl
  by_cases h0 : c.d.length = 0
  · have hd0 : c.d = [] := List.eq_nil_of_length_eq_zero h0
    rw [if_pos h0] at hst
    obtain ⟨bs', hr, ho⟩ := fin bs1 _ (hset.cast (by rw [hd0]))
    refine ⟨bs', 2, put_step rfl he hout hst hr, by omega, ?_⟩
    rw [List.set_set] at ho
    exact ho
  · rw [if_neg h0] at hst
    obtain ⟨bs2, r, hr, hrn, ho⟩ := wb_runs c b s H hd P k a hok hdB c.d.length c.d bs1 _ (Nat.le_refl _) h0 (by simp) (hset.cast (by simp))
    obtain ⟨bs', hr2, ho2⟩ := fin bs2 _ ho
    have e0 : a + 8 + ((c.d.length - c.d.length : Nat) : Int) = a + 8 := by omega
    rw [e0] at hr
    refine ⟨bs', r + 1 + 1, put_step rfl he hout hst (hr.trans hr2), by omega, ?_⟩
    rw [List.set_set, List.set_set] at ho2
    exact ho2
theorem s64_small {x : Int} (h0 : 0 ≤ x) (h1 : x ≤ 1000000) : s64 x = x := by unfold s64; omega
theorem fit_iff (c : PutC) (hd : Int) (pos : Int) (cl : Bool) (e : Int) (pc : PPc) (T : Int) (h0 : 0 ≤ T - hd) (h1 : T - hd ≤ c.s) (h2 : c.s ≤ 8192) : (PutM.mk c pc hd pos cl e).fit T = decide (c.nd ≤ c.s - (T - hd)) := by
  unfold PutM.fit
  dsimp only
  have e1 : u64 (T - hd) = T - hd := by unfold u64; omega
  have e2 : u64 (c.s - (T - hd)) = c.s - (T - hd) := by unfold u64; omega
  have e3 : s64 (c.s - (T - hd)) = c.s - (T - hd) := by unfold s64; omega
  rw [e1, e2, e3]
/-- A put alone, on a ring that nobody drained, where there is room. -/
theorem put_alone (c : PutC) (b s : Nat) (hok : c.ok = true) (hdB : IsB c.d) (hb : c.b = b) (hs : c.s = s) (bs : List Int) (L : List (List Int)) (h : Rg bs b s 0 L) (hcp : rdN bs (b + s + 8) 8 = 0) (h8 : tot L % 8 = 0) (hfit : (tot L : Int) + c.nd ≤ s) :
    ∃ bs' r, Runs putMac c.init bs r ⟨c, .done, 0, tot L, true, 0⟩ bs' ∧ r ≤ c.d.length + 6 ∧ Rg bs' b s 0 (L ++ [rcB (recS c.n c.typ) c.d c.nd.toNat]) ∧ rdN bs' (b + s + 8) 8 = 0 := by
  obtain ⟨q1, q2, q3⟩ := PutC.nd_bd hok
  obtain ⟨o1, o2, o3⟩ := PutC.ok_bd hok
  obtain ⟨-, g2, g3, g4, g5, g6⟩ := rgOk_bd o1
  have hln := h.len
  have hft := h.fit
  have htl := h.tail
  have hinit : PutC.init c = ⟨c, .hd0, 0, 0, false, 10⟩ := by
    unfold PutC.init PutC.e0
    rw [hok]
    simp [o1, o2, o3]
  have hs8 : c.s % 8 = 0 := by
    have := rg_pow (rgOk_bd o1).1 g2 g3
    omega
  have hT : (tot L) % s = tot L := Nat.mod_eq_of_lt (by omega)
  have hTi : (tot L : Int) % c.s = tot L := by rw [hs]; exact Int.emod_eq_of_lt (by omega) (by omega)
  obtain ⟨N, hN⟩ : ∃ N, N = c.nd.toNat := ⟨_, rfl⟩
  -- the claim's slot
  have hg := h.grow [zs N] (by simp [tot_one, zs_len]) (by rw [tot_one, zs_len]; omega) (fun k hk => by
    have : k = 0 := by simp at hk; omega
    subst this
    simp only [List.take_zero, List.getElem_cons_zero, zs_len, tot_nil, Nat.zero_add, Nat.add_zero]
    rw [hT]
    omega) (fun k hk => by
    have : k = 0 := by simp at hk; omega
    subst this
    simp only [List.getElem_cons_zero, zs_len]
    omega) (by rw [tot_one, zs_len]; omega)
  rw [tot_one, zs_len] at hg
  have l8 := leB_length (((0 : Nat) : Int) + tot L + N) 8
  have hown : Own (spl bs (b + s) (leB (((0 : Nat) : Int) + tot L + N) 8)) c b s 0 (L ++ [zs N]) L.length (c.b + (tot L : Int) % c.s) (zs c.nd.toNat) := by
    refine ⟨hg, by simp, by simp [hN], by rw [zs_len]; omega, ?_, ?_⟩
    · rw [List.take_left, Nat.zero_add, hT, hTi, hb]
    · rw [rdN_far (by omega) (.inr (by omega))]
      exact hcp
  obtain ⟨bs', r, hr, hrn, ho⟩ := wh_runs c b s 0 0 (tot L) L.length _ hok hdB (by rw [hTi]; omega) _ _ hown
  have eset : (L ++ [zs N]).set L.length (rcB (recS c.n c.typ) c.d c.nd.toNat) = L ++ [rcB (recS c.n c.typ) c.d c.nd.toNat] := by simp
  rw [eset] at ho
  refine ⟨bs', r + 1 + 1 + 1, ?_, by omega, ho.rg, ho.cp⟩
  rw [hinit]
  refine put_step (bs1 := bs) (m' := ⟨c, .tl, 0, 0, false, 10⟩) rfl ?_ rfl ?_ (put_step (bs1 := bs) (m' := ⟨c, .cs (tot L) 0, 0, 0, false, 10⟩) rfl ?_ rfl ?_ (put_step (bs1 := spl bs (b + s) (leB (((0 : Nat) : Int) + tot L + N) 8)) (m' := ⟨c, .wh (c.b + (tot L : Int) % c.s), 0, tot L, true, 10⟩) rfl ?_ ?_ ?_ hr))
  · show acE bs.length 1 (c.b + c.s + 8) 8 0 = 0
    exact acE_at (.inl ⟨.inl rfl, .inr rfl⟩) (by omega) (by omega) (by omega) (fun _ => by omega)
  · show PutM.mk c .tl (rdN bs (c.b + c.s + 8).toNat 8) 0 false 10 = _
    rw [show (c.b + c.s + 8).toNat = b + s + 8 by omega, hcp]
  · show acE bs.length 1 (c.b + c.s) 8 0 = 0
    exact acE_at (.inl ⟨.inl rfl, .inr rfl⟩) (by omega) (by omega) (by omega) (fun _ => by omega)
  · show (if (PutM.mk c .tl 0 0 false 10).fit (rdN bs (c.b + c.s).toNat 8) then (PutM.mk c .tl 0 0 false 10).gapped (rdN bs (c.b + c.s).toNat 8) else _) = _
    rw [show (c.b + c.s).toNat = b + s by omega, htl, show ((0 : Nat) : Int) + (tot L : Int) = (tot L : Int) by omega, fit_iff c 0 0 false 10 .tl _ (by omega) (by omega) (by omega), if_pos (decide_eq_true (by omega))]
    unfold PutM.gapped
    dsimp only
    rw [hTi, if_pos (by omega)]
  · show acE bs.length 4 (c.b + c.s) 8 0 = 0
    exact acE_at (.inl ⟨.inr (.inr rfl), .inr rfl⟩) (by omega) (by omega) (by omega) (fun _ => by omega)
  · show (if rdN bs (c.b + c.s).toNat 8 = (tot L : Int) % 256 ^ 8 then spl bs (c.b + c.s).toNat (leB (u64 ((tot L : Int) + (c.nd + 0))) 8) else bs) = _
    have e9 : (256 : Int) ^ 8 = 18446744073709551616 := by decide
    rw [show (c.b + c.s).toNat = b + s by omega, htl, e9, if_pos (by omega)]
    congr 2
    unfold u64
    omega
  · show (if (rdN bs (c.b + c.s).toNat 8 == (tot L : Int) % 256 ^ 8) = true then PutM.mk c (if (0 : Int) = 0 then .wh (c.b + (tot L : Int) % c.s) else .pd (tot L)) 0 (s64 (s64 (tot L) + 0)) true 10 else _) = _
    have e9 : (256 : Int) ^ 8 = 18446744073709551616 := by decide
    have e11 : s64 (tot L : Int) = tot L := s64_small (by omega) (by omega)
    have e10 : s64 (s64 (tot L : Int) + 0) = tot L := by rw [e11, Int.add_zero, e11]
    rw [show (c.b + c.s).toNat = b + s by omega, htl, e9, if_pos (by simp; omega), if_pos rfl, e10]
/-- .. where there is none. -/
theorem put_full (c : PutC) (b s : Nat) (hok : c.ok = true) (hb : c.b = b) (hs : c.s = s) (bs : List Int) (L : List (List Int)) (h : Rg bs b s 0 L) (hcp : rdN bs (b + s + 8) 8 = 0) (hfit : (s : Int) < tot L + c.nd) :
    Runs putMac c.init bs 3 ⟨c, .done, 0, 0, false, 5⟩ bs := by
  obtain ⟨q1, q2, q3⟩ := PutC.nd_bd hok
  obtain ⟨o1, o2, o3⟩ := PutC.ok_bd hok
  obtain ⟨-, g2, g3, g4, g5, g6⟩ := rgOk_bd o1
  have hln := h.len
  have hft := h.fit
  have htl := h.tail
  have hhd : rdN bs (b + s + 16) 8 = 0 := by have := h.head; omega
  have hinit : PutC.init c = ⟨c, .hd0, 0, 0, false, 10⟩ := by
    unfold PutC.init PutC.e0
    rw [hok]
    simp [o1, o2, o3]
  have hs8 : c.s % 8 = 0 := by
    have := rg_pow (rgOk_bd o1).1 g2 g3
    omega
  have hnf : ∀ pc, (PutM.mk c pc 0 0 false 10).fit (tot L) = false := fun pc => by
    rw [fit_iff c 0 0 false 10 pc _ (by omega) (by omega) (by omega)]
    exact decide_eq_false (by omega)
  rw [hinit]
  have s1 : (PutM.mk c .hd0 0 0 false 10).step ((PutM.mk c .hd0 0 0 false 10).want.ans bs) = ⟨c, .tl, 0, 0, false, 10⟩ := by
    show PutM.mk c .tl (rdN bs (c.b + c.s + 8).toNat 8) 0 false 10 = _
    rw [show (c.b + c.s + 8).toNat = b + s + 8 by omega, hcp]
  have s2 : (PutM.mk c .tl 0 0 false 10).step ((PutM.mk c .tl 0 0 false 10).want.ans bs) = ⟨c, .rm (tot L), 0, 0, false, 10⟩ := by
    have e : (PutM.mk c .tl 0 0 false 10).want.ans bs = ⟨tot L, false, []⟩ := by
      show AN.mk (rdN bs (c.b + c.s).toNat 8) false [] = _
      rw [show (c.b + c.s).toNat = b + s by omega, htl]
      congr 1
      omega
    rw [e]
    unfold PutM.step
    dsimp only
    rw [hnf .tl, if_neg (by nofun)]
  have s3 : (PutM.mk c (.rm (tot L)) 0 0 false 10).step ((PutM.mk c (.rm (tot L)) 0 0 false 10).want.ans bs) = ⟨c, .done, 0, 0, false, 5⟩ := by
    have e : (PutM.mk c (.rm (tot L)) 0 0 false 10).want.ans bs = ⟨0, false, []⟩ := by
      show AN.mk (rdN bs (c.b + c.s + 16).toNat 8) false [] = _
      rw [show (c.b + c.s + 16).toNat = b + s + 16 by omega, hhd]
    rw [e]
    unfold PutM.step
    dsimp only
    rw [hnf (.rm (tot L)), if_neg (by nofun)]
  have al : ∀ x : Int, x % 8 = 0 → 0 ≤ x → x + 8 ≤ bs.length → acE bs.length 1 x 8 0 = 0 := fun x h1 h2 h3 => acE_at (.inl ⟨.inl rfl, .inr rfl⟩) h2 h3 (by omega) (fun _ => h1)
  exact put_step (bs1 := bs) rfl (al (c.b + c.s + 8) (by omega) (by omega) (by omega)) rfl s1 (put_step (bs1 := bs) rfl (al (c.b + c.s) (by omega) (by omega) (by omega)) rfl s2 (put_step (bs1 := bs) rfl (al (c.b + c.s + 16) (by omega) (by omega) (by omega)) rfl s3 (.refl _ _)))
end Go.Proofs.Ytpicplkbblmbeaa
