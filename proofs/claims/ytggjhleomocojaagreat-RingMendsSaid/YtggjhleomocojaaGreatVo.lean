/- A ring on which nobody puts any more is fixed. No program in sight. Conditions: none. -/
import Derived.Test.YtggjhleomocojaaGreatVn
namespace Go.Proofs.YtggjhleomocojaaGreat
open Go.RowKit
set_option linter.unusedVariables false
variable {b s : Nat} {bs : List Int} {A : List (Slot × Nat)} {k H : Nat}
theorem InvX.dead {D : Prop} {P : List PutM} {F : List (List Int)} (h : InvX D b s bs P A k H F) : InvX True b s bs [] A k H F :=
 ⟨h.so, h.b8, h.rg, h.kl, h.fk, h.h8, h.ok, h.fn, fun e => absurd trivial e, h.cp, fun i m hi => by simp at hi⟩
theorem InvX.pad (h : InvX True b s bs [] A k H []) (m : Nat) (hm : 1 ≤ m) (hmk : k + m ≤ A.length) (hle : H % s + ln ((A.drop k).take m) ≤ s) (y : Slot) (i : Nat) (v : Int) (hy : y.ok) (hyn : y.n = ln ((A.drop k).take m))
  (hrow : spl (rows ((A.drop k).take m)).flatten 0 (leB v 8) = y.row) :
  InvX True b s (spl bs (b + H % s) (leB v 8)) [] (A.take k ++ (y, i) :: A.drop (k + m)) k H [] := by
 have hsp : (A.drop k).take m ++ A.drop (k + m) = A.drop k := by rw [← List.drop_drop, List.take_append_drop]
 have hZ : ∀ x ∈ (A.drop k).take m, x.1.ok := fun x hx => h.okd x (List.mem_of_mem_take hx)
 have hr : Rg bs b s H (rows ((A.drop k).take m) ++ rows (A.drop (k + m))) := by
  have := h.rg
  rw [List.nil_append, ← hsp] at this
  unfold rows at this ⊢
  rw [List.map_append] at this
  exact this
 have hZl : ((A.drop k).take m).length = m := by simp; omega
 have hZt := tot_rows hZ
 have hmg := hr.merge (by intro e; have := congrArg List.length e; simp [rows] at this; omega) (by rw [hZt]; exact hle)
 have hl8 := leB_length v 8
 have hfl : (rows ((A.drop k).take m)).flatten.length = y.n := by rw [hyn, ← hZt]; rfl
 have h0 := hy.n0
 have hln := h.rg.len
 have hs0 := h.rg.s0
 have hmd : H % s < s := Nat.mod_lt _ hs0
 have hw := hmg.write 0 (by simp) 0 (leB v 8) (by show 0 + _ ≤ (rows ((A.drop k).take m)).flatten.length; omega) (by show 0 < (rows ((A.drop k).take m)).flatten.length; omega) (leB_is _ _)
 have hw : Rg (spl bs (b + ((H + tot []) % s + 0)) (leB v 8)) b s H (spl (rows ((A.drop k).take m)).flatten 0 (leB v 8) :: rows (A.drop (k + m))) := hw
 rw [tot_nil, Nat.add_zero, Nat.add_zero, hrow] at hw
 have hkl := h.kl
 have htl : (A.take k).length = k := by simp; omega
 have htk : (A.take k ++ (y, i) :: A.drop (k + m)).take k = A.take k := by
  rw [List.take_append_of_le_length (by omega), List.take_of_length_le (by omega)]
 have hdk : (A.take k ++ (y, i) :: A.drop (k + m)).drop k = (y, i) :: A.drop (k + m) := by
  rw [List.drop_append_of_le_length (by omega), List.drop_eq_nil_of_le (by omega)]
  rfl
 refine ⟨h.so, h.b8, ?_, by simp; omega, by rw [htk]; exact h.fk, h.h8, ?_, by rw [htk]; exact h.fn, fun e => absurd trivial e, ?_, fun i m hi => by simp at hi⟩
 ·rw [hdk]
  exact hw
 ·intro x hx
  rcases List.mem_append.1 hx with hx | hx
  ·exact h.ok x (List.mem_of_mem_take hx)
  ·rcases List.mem_cons.1 hx with rfl | hx
   ·exact hy
   ·exact h.ok x (List.mem_of_mem_drop hx)
 ·obtain ⟨c, hc, hcl⟩ := h.cp
  refine ⟨c, ?_, hcl⟩
  have hle' : H % s + y.n ≤ s := by rw [hyn]; exact hle
  rw [rdN_far (by omega) (.inr (by omega))]
  exact hc
theorem mso_app : ∀ (A B : List (Slot × Nat)) (o : Nat), mso o (A ++ B) = mso o A ++ mso (o + ln A) B
 | [], B, o => by simp [mso, ln]
 | (.z n, i) :: A, B, o => by simpa [mso, ln, Slot.n, Nat.add_assoc] using mso_app A B (o + n)
 | (.p n l r, i) :: A, B, o => by simpa [mso, ln, Slot.n, Nat.add_assoc] using mso_app A B (o + n)
 | (.b t d n k, i) :: A, B, o => by simpa [mso, ln, Slot.n, Nat.add_assoc] using mso_app A B (o + n)
 | (.w t d n, i) :: A, B, o => by simpa [mso, ln, Slot.n, Nat.add_assoc] using mso_app A B (o + n)
def Slot.isW : Slot → Bool
 | .w _ _ _ => true
 | _ => false
theorem mso_none : ∀ (A : List (Slot × Nat)) (o : Nat), (∀ x ∈ A, x.1.isW = false) → mso o A = [] ∧ msgs A = []
 | [], o, _ => ⟨rfl, rfl⟩
 | (.z n, i) :: A, o, h => mso_none A (o + n) fun x hx => h x (List.mem_cons_of_mem _ hx)
 | (.p n l r, i) :: A, o, h => mso_none A (o + n) fun x hx => h x (List.mem_cons_of_mem _ hx)
 | (.b t d n k, i) :: A, o, h => mso_none A (o + n) fun x hx => h x (List.mem_cons_of_mem _ hx)
 | (.w t d n, i) :: A, o, h => by have := h _ (List.mem_cons_self ..); cases this
def nfin (A : List (Slot × Nat)) : Nat := (A.filter fun x => !x.1.fin).length
theorem nfin_app (A B : List (Slot × Nat)) : nfin (A ++ B) = nfin A + nfin B := by simp [nfin]
structure Padded (A A' : List (Slot × Nat)) (k : Nat) : Prop where
 tk : A'.take k = A.take k
 ms : mso 0 A' = mso 0 A
 mg : msgs A' = msgs A
 ln : ln A' = ln A
 la : ∀ x, A.getLast? = some x → x.1.fin = true → A'.getLast? = some x
theorem Padded.refl (A : List (Slot × Nat)) (k : Nat) : Padded A A k := ⟨rfl, rfl, rfl, rfl, fun _ h _ => h⟩
theorem padded {k m i : Nat} {y : Slot} (hm : 1 ≤ m) (hmk : k + m ≤ A.length) (hyn : y.n = ln ((A.drop k).take m)) (hyf : y.fin = true) (hyw : y.isW = false) (hz : ∀ x ∈ (A.drop k).take m, x.1.isW = false ∧ x.1.fin = false) :
  Padded A (A.take k ++ (y, i) :: A.drop (k + m)) k ∧ nfin (A.take k ++ (y, i) :: A.drop (k + m)) < nfin A := by
 have hsp : A = A.take k ++ ((A.drop k).take m ++ A.drop (k + m)) := by rw [← List.drop_drop, List.take_append_drop, List.take_append_drop]
 have htl : (A.take k).length = k := by simp; omega
 have hZl : ((A.drop k).take m).length = m := by simp; omega
 have e1 : A.take k ++ (y, i) :: A.drop (k + m) = A.take k ++ ([(y, i)] ++ A.drop (k + m)) := rfl
 have hy1 := mso_none [(y, i)] (0 + Go.Proofs.YtggjhleomocojaaGreat.ln (A.take k)) (fun x hx => by rw [List.mem_singleton.1 hx]; exact hyw)
 have hz1 := mso_none ((A.drop k).take m) (0 + Go.Proofs.YtggjhleomocojaaGreat.ln (A.take k)) (fun x hx => (hz x hx).1)
 have hyl : Go.Proofs.YtggjhleomocojaaGreat.ln [(y, i)] = Go.Proofs.YtggjhleomocojaaGreat.ln ((A.drop k).take m) := by rw [← hyn]; simp [Go.Proofs.YtggjhleomocojaaGreat.ln]
 refine ⟨⟨?_, ?_, ?_, ?_, ?_⟩, ?_⟩
 ·rw [List.take_append_of_le_length (by omega), List.take_of_length_le (by omega)]
 ·conv => rhs; rw [hsp]
  rw [e1, mso_app, mso_app, mso_app, mso_app, hy1.1, hz1.1, hyl]
 ·conv => rhs; rw [hsp]
  rw [e1, msgs_app, msgs_app, msgs_app, msgs_app, hy1.2, hz1.2]
 ·conv => rhs; rw [hsp]
  rw [e1, ln_app, ln_app, ln_app, ln_app, hyl]
 ·intro x hx hf
  by_cases he : A.drop (k + m) = []
  ·exfalso
   rw [hsp, he, List.append_nil, List.getLast?_append] at hx
   have hne : (A.drop k).take m ≠ [] := fun e => by rw [e] at hZl; simp at hZl; omega
   rw [List.getLast?_eq_some_getLast hne] at hx
   simp at hx
   have := (hz _ (List.getLast_mem hne)).2
   rw [hx, hf] at this
   cases this
  ·rw [hsp, List.getLast?_append, List.getLast?_append, List.getLast?_eq_some_getLast he] at hx
   rw [e1, List.getLast?_append, List.getLast?_append, List.getLast?_eq_some_getLast he]
   simpa using hx
 ·conv => rhs; rw [hsp]
  rw [e1, nfin_app, nfin_app, nfin_app, nfin_app]
  have h1 : nfin [(y, i)] = 0 := by simp [nfin, hyf]
  have h2 : nfin ((A.drop k).take m) = m := by
   unfold nfin
   rw [List.filter_eq_self.2 (fun x hx => by rw [(hz x hx).2]; rfl), hZl]
  omega
abbrev fixMac0 : Mac := ⟨FixM, FixM.live, FixM.want, FixM.step⟩
theorem ld4_err {N : Nat} {a : Int} (h0 : 0 ≤ a) (h4 : a % 4 = 0) (h1 : a + 4 ≤ N) : acE N 1 a 4 0 = 0 := acE_at (.inl ⟨.inl rfl, .inl rfl⟩) h0 h1 (by omega) (fun _ => h4)
variable {c : FixC}
theorem fix_ahead {first last n e : Int} {B f N : Nat} (hc : c.b = B) (hf : first = f) (h8 : (B + f) % 8 = 0) (hN8 : N % 8 = 0) (hlen : B + f + N + 8 ≤ bs.length) (hlast : (f + N : Nat) < last)
  (hz : ∀ o, o < N → o % 8 = 0 → rdN bs (B + f + o) 4 = 0) (hn : rdN bs (B + f + N) 4 ≠ 0) :
  ∀ (j o : Nat), o + 8 * j = N → Runs fixMac0 ⟨c, .ah (f + o : Nat), first, last, n, e⟩ bs (j + 1) ((FixM.mk c (.ah (f + N : Nat)) first last n e).back ((f + N : Nat) - 8) (f + N : Nat)) bs := by
 intro j
 induction j with
 | zero =>
  intro o ho
  have hoN : o = N := by omega
  subst hoN
  have ha : (c.b + (f + o : Nat)).toNat = B + f + o := by omega
  have hr := Runs.one (M := fixMac0) (s := ⟨c, .ah (f + o : Nat), first, last, n, e⟩) (bs := bs) rfl (by
   show acE bs.length 1 (c.b + (f + o : Nat)) 4 0 = 0
   exact ld4_err (by omega) (by omega) (by omega))
  have hs : (FixM.mk c (.ah (f + o : Nat)) first last n e).step ((FixM.mk c (.ah (f + o : Nat)) first last n e).want.ans bs) = (FixM.mk c (.ah (f + o : Nat)) first last n e).back ((f + o : Nat) - 8) (f + o : Nat) := by
   show (if rdN bs (c.b + (f + o : Nat)).toNat 4 = 0 then _ else _) = _
   rw [ha, if_neg hn]
  rw [← hs]
  exact hr
 | succ j ih =>
  intro o ho
  have ha : (c.b + (f + o : Nat)).toNat = B + f + o := by omega
  have hs : (FixM.mk c (.ah (f + o : Nat)) first last n e).step ((FixM.mk c (.ah (f + o : Nat)) first last n e).want.ans bs) = ⟨c, .ah (f + (o + 8) : Nat), first, last, n, e⟩ := by
   show (if rdN bs (c.b + (f + o : Nat)).toNat 4 = 0 then (FixM.mk c (.ah (f + o : Nat)) first last n e).ahead ((f + o : Nat) + 8) else _) = _
   rw [ha, if_pos (hz o (by omega) (by omega))]
   show (if last ≤ ((f + o : Nat) : Int) + 8 then _ else _) = _
   rw [if_neg (by omega), show ((f + o : Nat) : Int) + 8 = (f + (o + 8) : Nat) by omega]
  refine .step (M := fixMac0) rfl (by
   show acE bs.length 1 (c.b + (f + o : Nat)) 4 0 = 0
   exact ld4_err (by omega) (by omega) (by omega)) ?_
  show Runs fixMac0 ((FixM.mk c (.ah (f + o : Nat)) first last n e).step ((FixM.mk c (.ah (f + o : Nat)) first last n e).want.ans bs)) bs (j + 1) _ bs
  rw [hs]
  exact ih (o + 8) (by omega)
theorem fix_back {first last n e : Int} {B f N : Nat} (hc : c.b = B) (hf : first = f) (h8 : (B + f) % 8 = 0) (hN8 : N % 8 = 0) (hlen : B + f + N + 8 ≤ bs.length)
  (hz : ∀ o, o < N → o % 8 = 0 → rdN bs (B + f + o) 4 = 0) :
  ∀ j : Nat, 8 * (j + 1) ≤ N → Runs fixMac0 ⟨c, .bk (f + 8 * j : Nat) (f + N : Nat), first, last, n, e⟩ bs (j + 1) ⟨c, .pd N, first, last, n, e⟩ bs := by
 intro j
 induction j with
 | zero =>
  intro ho
  have ha : (c.b + (f + 8 * 0 : Nat)).toNat = B + f + 0 := by omega
  have hr := Runs.one (M := fixMac0) (s := ⟨c, .bk (f + 8 * 0 : Nat) (f + N : Nat), first, last, n, e⟩) (bs := bs) rfl (by
   show acE bs.length 1 (c.b + (f + 8 * 0 : Nat)) 4 0 = 0
   exact ld4_err (by omega) (by omega) (by omega))
  have hs : (FixM.mk c (.bk (f + 8 * 0 : Nat) (f + N : Nat)) first last n e).step ((FixM.mk c (.bk (f + 8 * 0 : Nat) (f + N : Nat)) first last n e).want.ans bs) = ⟨c, .pd N, first, last, n, e⟩ := by
   show (if rdN bs (c.b + (f + 8 * 0 : Nat)).toNat 4 ≠ 0 then _ else if ((f + 8 * 0 : Nat) : Int) - 8 < first then _ else _) = _
   rw [ha, if_neg (by rw [hz 0 (by omega) rfl]; simp), if_pos (by omega)]
   congr 2
   show ((f + N : Nat) : Int) - first = N
   omega
  rw [← hs]
  exact hr
 | succ j ih =>
  intro ho
  have ha : (c.b + (f + 8 * (j + 1) : Nat)).toNat = B + f + 8 * (j + 1) := by omega
  have hs : (FixM.mk c (.bk (f + 8 * (j + 1) : Nat) (f + N : Nat)) first last n e).step ((FixM.mk c (.bk (f + 8 * (j + 1) : Nat) (f + N : Nat)) first last n e).want.ans bs) = ⟨c, .bk (f + 8 * j : Nat) (f + N : Nat), first, last, n, e⟩ := by
   show (if rdN bs (c.b + (f + 8 * (j + 1) : Nat)).toNat 4 ≠ 0 then _ else if ((f + 8 * (j + 1) : Nat) : Int) - 8 < first then _ else _) = _
   rw [ha, if_neg (by rw [hz _ (by omega) (by omega)]; simp), if_neg (by omega)]
   show FixM.mk c (.bk (((f + 8 * (j + 1) : Nat) : Int) - 8) _) first last n e = _
   rw [show ((f + 8 * (j + 1) : Nat) : Int) - 8 = (f + 8 * j : Nat) by omega]
  refine .step (M := fixMac0) rfl (by
   show acE bs.length 1 (c.b + (f + 8 * (j + 1) : Nat)) 4 0 = 0
   exact ld4_err (by omega) (by omega) (by omega)) ?_
  show Runs fixMac0 ((FixM.mk c (.bk (f + 8 * (j + 1) : Nat) (f + N : Nat)) first last n e).step ((FixM.mk c (.bk (f + 8 * (j + 1) : Nat) (f + N : Nat)) first last n e).want.ans bs)) bs (j + 1) _ bs
  rw [hs]
  exact ih (by omega)
theorem fix_pd {first last n e l : Int} {B f : Nat} (hc : c.b = B) (hf : first = f) (h8 : (B + f) % 8 = 0) (hlen : B + f + 8 ≤ bs.length) :
  Runs fixMac0 ⟨c, .pd l, first, last, n, e⟩ bs 1 ⟨c, .done, first, last, l, 0⟩ (spl bs (B + f) (leB (recS l (-1)) 8)) := by
 have ha : (c.b + first).toNat = B + f := by omega
 have hr := Runs.one (M := fixMac0) (s := ⟨c, .pd l, first, last, n, e⟩) (bs := bs) rfl (by
  show acE bs.length 2 (c.b + first) 8 0 = 0
  exact sto_err (by omega) (by omega) (by omega))
 have ho : (FixM.mk c (.pd l) first last n e).want.out bs = spl bs (B + f) (leB (recS l (-1)) 8) := by
  show spl bs (c.b + first).toNat (leB (recS l (-1)) 8) = _
  rw [ha]
 rw [← ho]
 exact hr
theorem zrun : ∀ L : List (Slot × Nat), (∃ x ∈ L, x.1.isZ = false) → ∃ m x, m < L.length ∧ (∀ z ∈ L.take m, z.1.isZ = true) ∧ L[m]? = some x ∧ x.1.isZ = false
 | [], h => by obtain ⟨x, hx, _⟩ := h; simp at hx
 | y :: L, h => by
  by_cases hy : y.1.isZ = true
  ·have h' : ∃ x ∈ L, x.1.isZ = false := by
    obtain ⟨x, hx, hx'⟩ := h
    rcases List.mem_cons.1 hx with rfl | hx
    ·rw [hy] at hx'; cases hx'
    ·exact ⟨x, hx, hx'⟩
   obtain ⟨m, x, h1, h2, h3, h4⟩ := zrun L h'
   refine ⟨m + 1, x, by simp; omega, ?_, by simpa using h3, h4⟩
   intro z hz
   rw [List.take_succ_cons] at hz
   rcases List.mem_cons.1 hz with rfl | hz
   ·exact hy
   ·exact h2 z hz
  ·exact ⟨0, y, by simp, by simp, rfl, by simpa using hy⟩
theorem Slot.nzero {x : Slot} (h : x.ok) (hz : x.isZ = false) : leN (x.row.take 4) ≠ 0 := by
 have hl := Slot.len h
 obtain ⟨h1, h2, h3, h4⟩ := h
 have hlo : loS x.hdr ≠ 0 := by
  cases x with
  | z n => cases hz
  | p n l r =>
   obtain ⟨g1, g2, g3, g4⟩ := h4
   have h3 : n ≤ 8192 := h3
   rw [Slot.hdr_p, recS_lo _ _ (by omega) (by omega)]
   omega
  | b t d n k =>
   obtain ⟨g1, g2, g3, g4, g5⟩ := h4
   have h3 : n ≤ 8192 := h3
   rw [Slot.hdr_b, recS_lo _ _ (by omega) (by omega)]
   omega
  | w t d n =>
   obtain ⟨g1, g2, g3, g4⟩ := h4
   have h3 : n ≤ 8192 := h3
   rw [Slot.hdr_w, recS_lo _ _ (by omega) (by omega)]
   omega
 intro e
 apply hlo
 have e1 : x.row.take 8 = x.row.take 4 ++ (x.row.drop 4).take 4 := by rw [show 8 = 4 + 4 from rfl, List.take_add]
 have e2 : x.hdr = 4294967296 * leN ((x.row.drop 4).take 4) := by
  show leN (x.row.take 8) = _
  rw [e1, leN_append, e]
  have : (x.row.take 4).length = 4 := by simp; omega
  rw [this]
  omega
 rw [e2]
 unfold loS wrap32
 omega
theorem spl_0 (l ms : List Int) : spl l 0 ms = ms ++ l.drop ms.length := by
 unfold spl
 simp
set_option maxHeartbeats 1000000 in
theorem fix_ends (h : InvX True b s bs [] A k H []) (hs : ln A ≤ s) (hla : ∃ x, A.getLast? = some x ∧ x.1.fin = true) (c : FixC) (hcb : c.b = b) (hcs : c.s = s) (hok : rgOk c.b c.s = true) :
  ∃ n bs' A' m', Runs fixMac0 c.init bs n m' bs' ∧ m'.live = false ∧ n ≤ 2 * s ∧ InvX True b s bs' [] A' k H [] ∧ Padded A A' k ∧ (nfin A' < nfin A ∨ (A' = A ∧ (k = A.length ∨ ∃ x, A[k]? = some x ∧ x.1.fin = true))) := by
 have hso := h.so
 have hln := h.rg.len
 have hb8 := h.b8
 have hH8 := h.h8
 have hs0 := h.rg.s0
 have hhd := h.rg.head
 have htl := h.tail
 have hfk := h.fk
 rw [tot_nil, Nat.add_zero] at hfk
 have hle := ln_take_le A k
 have hi : c.init = ⟨c, .h0, 0, 0, 0, 10⟩ := by unfold FixC.init; rw [hok]; rfl
 rw [hi]
 have r1 : Runs fixMac0 ⟨c, .h0, 0, 0, 0, 10⟩ bs 1 ⟨c, .t0 H, 0, 0, 0, 10⟩ bs := by
  have hr := Runs.one (M := fixMac0) (s := ⟨c, .h0, 0, 0, 0, 10⟩) (bs := bs) rfl (by
   show acE bs.length 1 (c.b + c.s + 16) 8 0 = 0
   exact ld_err (by omega) (by omega) (by omega))
  have hst : (FixM.mk c .h0 0 0 0 10).step ((FixM.mk c .h0 0 0 0 10).want.ans bs) = ⟨c, .t0 H, 0, 0, 0, 10⟩ := by
   show FixM.mk c (.t0 (rdN bs (c.b + c.s + 16).toNat 8)) 0 0 0 10 = _
   rw [show (c.b + c.s + 16).toNat = b + s + 16 by omega, hhd]
  rw [← hst]
  exact hr
 have r2 : Runs fixMac0 ⟨c, .t0 H, 0, 0, 0, 10⟩ bs 1 ((FixM.mk c (.t0 H) 0 0 0 10).begin H (ln A : Nat)) bs := by
  have hr := Runs.one (M := fixMac0) (s := ⟨c, .t0 H, 0, 0, 0, 10⟩) (bs := bs) rfl (by
   show acE bs.length 1 (c.b + c.s) 8 0 = 0
   exact ld_err (by omega) (by omega) (by omega))
  have hst : (FixM.mk c (.t0 H) 0 0 0 10).step ((FixM.mk c (.t0 H) 0 0 0 10).want.ans bs) = (FixM.mk c (.t0 H) 0 0 0 10).begin H (ln A : Nat) := by
   show (FixM.mk c (.t0 H) 0 0 0 10).begin H (rdN bs (c.b + c.s).toNat 8) = _
   rw [show (c.b + c.s).toNat = b + s by omega, htl]
  rw [← hst]
  exact hr
 have r12 := r1.trans r2
 by_cases hHl : H = ln A
 ·have hb : (FixM.mk c (.t0 H) 0 0 0 10).begin H (ln A : Nat) = ⟨c, .done, 0, 0, 0, 0⟩ := by
   unfold FixM.begin
   rw [if_pos (by omega)]
   rfl
  rw [hb] at r12
  refine ⟨_, bs, A, _, r12, rfl, by omega, h, Padded.refl _ _, .inr ⟨rfl, .inl ?_⟩⟩
  exact ln_inj h.ok h.kl (Nat.le_refl _) (by rw [← hfk, List.take_of_length_le (Nat.le_refl _)]; exact hHl)
 have hHlt : H < ln A := by omega
 have hm1 : H % s = H := Nat.mod_eq_of_lt (by omega)
 have hb : (FixM.mk c (.t0 H) 0 0 0 10).begin H (ln A : Nat) = ⟨c, .lk, H, (ln A : Nat), 0, 10⟩ := by
  unfold FixM.begin
  rw [if_neg (by omega)]
  show FixM.mk c .lk ((H : Int) % c.s) (if ((ln A : Nat) : Int) % c.s ≤ (H : Int) % c.s then c.s else ((ln A : Nat) : Int) % c.s) 0 10 = _
  have e1 : (H : Int) % c.s = H := by rw [hcs]; omega
  rw [e1]
  congr 1
  by_cases e : ln A = s
  ·rw [e, hcs, Int.emod_self, if_pos (by omega)]
  ·have e2 : ((ln A : Nat) : Int) % c.s = (ln A : Nat) := by rw [hcs]; exact Int.emod_eq_of_lt (by omega) (by omega)
   rw [e2, if_neg (by omega)]
 rw [hb] at r12
 have hk : k < A.length := by
  rcases Nat.lt_or_ge k A.length with hk | hk
  ·exact hk
  ·rw [List.take_of_length_le hk] at hfk
   omega
 obtain ⟨x, hx⟩ : ∃ x, A[k]? = some x := ⟨_, List.getElem?_eq_getElem hk⟩
 have hxo := h.ok x (List.mem_of_getElem? hx)
 have hxl := Slot.len hxo
 have hx0 := hxo.n0
 have hd0 : A.drop k = x :: A.drop (k + 1) := drop_at hx
 have hr0 := h.rg
 rw [List.nil_append, hd0] at hr0
 have hr0 : Rg bs b s H (x.1.row :: rows (A.drop (k + 1))) := hr0
 have hcr := hr0.cross 0 (by simp)
 have hcr : (H + tot []) % s + x.1.row.length ≤ s := hcr
 rw [tot_nil, Nat.add_zero, hm1, hxl] at hcr
 have hrd := hr0.read 0 (by simp) 0 8 (by show 0 + 8 ≤ x.1.row.length; omega) (by show 0 < x.1.row.length; omega)
 have hrd : (bs.drop (b + ((H + tot []) % s + 0))).take 8 = (x.1.row.drop 0).take 8 := hrd
 rw [tot_nil, Nat.add_zero, Nat.add_zero, hm1, List.drop_zero] at hrd
 have hv : rdN bs (c.b + (H : Int)).toNat 8 = x.1.hdr := by
  rw [show (c.b + (H : Int)).toNat = b + H by omega]
  show leN _ = leN _
  rw [hrd]
 have r3 : Runs fixMac0 ⟨c, .lk, H, (ln A : Nat), 0, 10⟩ bs 1 (if 0 < loS x.1.hdr ∨ loS x.1.hdr < -(c.s - H) then ⟨c, .done, H, (ln A : Nat), 0, 0⟩ else if loS x.1.hdr < 0 then ⟨c, .pd (-loS x.1.hdr), H, (ln A : Nat), 0, 10⟩ else (FixM.mk c .lk H (ln A : Nat) 0 10).ahead (H + 8)) bs := by
  have hr := Runs.one (M := fixMac0) (s := ⟨c, .lk, H, (ln A : Nat), 0, 10⟩) (bs := bs) rfl (by
   show acE bs.length 1 (c.b + (H : Int)) 8 0 = 0
   exact ld_err (by omega) (by omega) (by omega))
  have hst : (FixM.mk c .lk H (ln A : Nat) 0 10).step ((FixM.mk c .lk H (ln A : Nat) 0 10).want.ans bs) = (if 0 < loS x.1.hdr ∨ loS x.1.hdr < -(c.s - H) then ⟨c, .done, H, (ln A : Nat), 0, 0⟩ else if loS x.1.hdr < 0 then ⟨c, .pd (-loS x.1.hdr), H, (ln A : Nat), 0, 10⟩ else (FixM.mk c .lk H (ln A : Nat) 0 10).ahead (H + 8)) := by
   rw [← hv]
   rfl
  rw [← hst]
  exact hr
 have r123 := r12.trans r3
 obtain ⟨x, i⟩ := x
 cases x with
 | w t d n =>
  obtain ⟨g1, g2, g3, g4⟩ := hxo.good
  have h3 : n ≤ 8192 := hxo.n1
  rw [Slot.hdr_w, recS_lo _ _ (by omega) (by omega), if_pos (by omega)] at r123
  exact ⟨_, bs, A, _, r123, rfl, by omega, h, Padded.refl _ _, .inr ⟨rfl, .inr ⟨_, hx, rfl⟩⟩⟩
 | p n l r =>
  obtain ⟨g1, g2, g3, g4⟩ := hxo.good
  have h3 : n ≤ 8192 := hxo.n1
  rw [Slot.hdr_p, recS_lo _ _ (by omega) (by omega), if_pos (by omega)] at r123
  exact ⟨_, bs, A, _, r123, rfl, by omega, h, Padded.refl _ _, .inr ⟨rfl, .inr ⟨_, hx, rfl⟩⟩⟩
 | b t d n kk =>
  obtain ⟨g1, g2, g3, g4, g5⟩ := hxo.good
  have h3 : n ≤ 8192 := hxo.n1
  have hcr : H + n ≤ s := hcr
  rw [Slot.hdr_b, recS_lo _ _ (by omega) (by omega), if_neg (by omega), if_pos (by omega)] at r123
  have r4 := r123.trans (fix_pd (c := c) (first := H) (last := (ln A : Nat)) (n := 0) (e := 10) (l := -(-(8 + (d.length : Int)))) (B := b) (f := H) (bs := bs) hcb rfl (by omega) (by omega))
  have htk1 : (A.drop k).take 1 = [(Slot.b t d n kk, i)] := by rw [hd0]; rfl
  have hnn : n = ln ((A.drop k).take 1) := by rw [htk1]; rfl
  have hrow : spl (rows ((A.drop k).take 1)).flatten 0 (leB (recS (8 + (d.length : Int)) (-1)) 8) = (Slot.p n (8 + (d.length : Int)) ((Slot.b t d n kk).row.drop 8)).row := by
   rw [htk1, spl_0, leB_length]
   show _ ++ (rows [(Slot.b t d n kk, i)]).flatten.drop 8 = _ ++ _
   simp [rows]
  have hyo : (Slot.p n (8 + (d.length : Int)) ((Slot.b t d n kk).row.drop 8)).ok := by
   refine ⟨hxo.n0, hxo.n8, h3, fun y hy => ?_, by rw [List.length_drop, hxl]; rfl, by omega, by omega⟩
   have hB : IsB (Slot.b t d n kk).row := rcB_is (fun z hz => g1 z (List.mem_of_mem_take hz))
   exact hB y (List.mem_of_mem_drop hy)
  have hI := h.pad 1 (Nat.le_refl _) (by omega) (by rw [← hnn, hm1]; exact hcr) _ i _ hyo hnn hrow
  have hP := padded (A := A) (k := k) (m := 1) (i := i) (y := .p n (8 + (d.length : Int)) ((Slot.b t d n kk).row.drop 8)) (Nat.le_refl _) (by omega) hnn rfl rfl (fun z hz => by rw [htk1] at hz; rw [List.mem_singleton.1 hz]; exact ⟨rfl, rfl⟩)
  rw [hm1] at hI
  rw [Int.neg_neg] at r4
  exact ⟨_, _, _, _, r4, rfl, by omega, hI, hP.1, .inl hP.2⟩
 | z n =>
  rw [Slot.hdr_z, show loS 0 = 0 by unfold loS wrap32; omega, if_neg (by omega), if_neg (by omega)] at r123
  obtain ⟨xl, hxl1, hxl2⟩ := hla
  have hex : ∃ y ∈ A.drop k, y.1.isZ = false := by
   refine ⟨xl, ?_, ?_⟩
   ·have hne : A.drop k ≠ [] := by rw [hd0]; simp
    have e : A = A.take k ++ A.drop k := (List.take_append_drop k A).symm
    rw [e, List.getLast?_append, List.getLast?_eq_some_getLast hne] at hxl1
    have e2 : (A.drop k).getLast hne = xl := by simpa using hxl1
    rw [← e2]
    exact List.getLast_mem hne
   ·obtain ⟨q, qi⟩ := xl
    cases q with
    | z n => cases hxl2
    | _ => rfl
  obtain ⟨m, y, hmL, hmZ, hym, hyz⟩ := zrun _ hex
  have hmk : k + m < A.length := by simp at hmL; omega
  have hyA : A[k + m]? = some y := by rw [List.getElem?_drop] at hym; exact hym
  have hm1' : 1 ≤ m := by
   cases m with
   | zero => rw [hd0] at hym; simp at hym; subst hym; cases hyz
   | succ m => omega
  have hyo := h.ok y (List.mem_of_getElem? hyA)
  have hZo : ∀ z ∈ (A.drop k).take m, z.1.ok := fun z hz => h.okd z (List.mem_of_mem_take hz)
  obtain ⟨N, hN⟩ : ∃ N, N = ln ((A.drop k).take m) := ⟨_, rfl⟩
  have hN8 : N % 8 = 0 := by rw [hN]; exact ln_mod8 hZo
  have hNl : H + N + y.1.n ≤ ln A := by
   have e1 := ln_take_add A (show k ≤ k + m by omega)
   rw [show k + m - k = m by omega, ← hN, ← hfk] at e1
   have e2 := ln_take_succ hyA
   have e3 := ln_take_le A (k + m + 1)
   omega
  have hy0 := hyo.n0
  have hfl := rows_zs hmZ hZo
  have hsp : A.drop k = (A.drop k).take m ++ y :: A.drop (k + m + 1) := by rw [← drop_at hyA, ← List.drop_drop, List.take_append_drop]
  have hr1 := h.rg
  rw [List.nil_append, hsp] at hr1
  have hr1 : Rg bs b s H (rows ((A.drop k).take m) ++ y.1.row :: rows (A.drop (k + m + 1))) := by
   have e : rows ((A.drop k).take m ++ y :: A.drop (k + m + 1)) = rows ((A.drop k).take m) ++ y.1.row :: rows (A.drop (k + m + 1)) := by unfold rows; rw [List.map_append]; rfl
   rw [← e]
   exact hr1
  have hZt := tot_rows hZo
  have hZl : ((A.drop k).take m).length = m := by simp; omega
  have hmg := hr1.merge (by intro e; have := congrArg List.length e; simp [rows] at this; omega) (by rw [hZt, ← hN, hm1]; omega)
  rw [hfl, ← hN] at hmg
  have hN0 : 8 ≤ N := by
   have e : (A.drop k).take m = (Slot.z n, i) :: (A.drop (k + 1)).take (m - 1) := by
    rw [hd0, show m = (m - 1) + 1 by omega, List.take_succ_cons]
    simp
   rw [hN, e]
   have : 8 ≤ n := hxo.n0
   show 8 ≤ n + ln _
   omega
  have hz : ∀ o, o < N → o % 8 = 0 → rdN bs (b + H + o) 4 = 0 := by
   intro o ho ho8
   have q := hmg.read 0 (by simp) o 4 (by show o + 4 ≤ (zs N).length; rw [zs_len]; omega) (by show o < (zs N).length; rw [zs_len]; omega)
   have q : (bs.drop (b + ((H + tot []) % s + o))).take 4 = ((zs N).drop o).take 4 := q
   rw [tot_nil, Nat.add_zero, hm1, zs_drop, zs_take, ← Nat.add_assoc] at q
   show leN _ = 0
   rw [q]
   exact leN_zs0 _
  have hn : rdN bs (b + H + N) 4 ≠ 0 := by
   have hyl := Slot.len hyo
   have q := hmg.read 1 (by simp) 0 4 (by show 0 + 4 ≤ y.1.row.length; omega) (by show 0 < y.1.row.length; omega)
   have q : (bs.drop (b + ((H + tot [zs N]) % s + 0))).take 4 = (y.1.row.drop 0).take 4 := q
   rw [tot_one, zs_len, Nat.add_zero, List.drop_zero, Nat.mod_eq_of_lt (show H + N < s by omega), ← Nat.add_assoc] at q
   show leN _ ≠ 0
   rw [q]
   exact Slot.nzero hyo hyz
  have ra : Runs fixMac0 ((FixM.mk c .lk H (ln A : Nat) 0 10).ahead (H + 8)) bs ((N - 8) / 8 + 1 + (N / 8 - 1 + 1)) ⟨c, .pd N, H, (ln A : Nat), 0, 10⟩ bs := by
   have q1 : Runs fixMac0 ((FixM.mk c .lk H (ln A : Nat) 0 10).ahead (H + 8)) bs ((N - 8) / 8 + 1) ((FixM.mk c (.ah (H + N : Nat)) H (ln A : Nat) 0 10).back ((H + N : Nat) - 8) (H + N : Nat)) bs := by
    have q0 := fix_ahead (bs := bs) (c := c) (first := H) (last := (ln A : Nat)) (n := 0) (e := 10) (B := b) (f := H) (N := N) hcb rfl (by omega) hN8 (by omega) (by omega) hz hn ((N - 8) / 8) 8 (by omega)
    have e : (FixM.mk c .lk H (ln A : Nat) 0 10).ahead (H + 8) = ⟨c, .ah (H + 8 : Nat), H, (ln A : Nat), 0, 10⟩ := by
     unfold FixM.ahead
     rw [if_neg (by show ¬ ((ln A : Nat) : Int) ≤ (H : Int) + 8; omega)]
     rfl
    rw [e]
    exact q0
   have q2 := fix_back (bs := bs) (c := c) (first := H) (last := (ln A : Nat)) (n := 0) (e := 10) (B := b) (f := H) (N := N) hcb rfl (by omega) hN8 (by omega) hz (N / 8 - 1) (by omega)
   have e : (FixM.mk c (.ah (H + N : Nat)) H (ln A : Nat) 0 10).back ((H + N : Nat) - 8) (H + N : Nat) = ⟨c, .bk (H + 8 * (N / 8 - 1) : Nat) (H + N : Nat), H, (ln A : Nat), 0, 10⟩ := by
    unfold FixM.back
    rw [if_neg (by show ¬ (((H + N : Nat) : Int) - 8 < (H : Int)); omega), show ((H + N : Nat) : Int) - 8 = (H + 8 * (N / 8 - 1) : Nat) by omega]
   rw [e] at q1
   exact q1.trans q2
  have r4 := (r123.trans ra).trans (fix_pd (c := c) (first := H) (last := (ln A : Nat)) (n := 0) (e := 10) (l := N) (B := b) (f := H) (bs := bs) hcb rfl (by omega) (by omega))
  have hN1 : N ≤ 8192 := by omega
  have hrow : spl (rows ((A.drop k).take m)).flatten 0 (leB (recS (N : Int) (-1)) 8) = (Slot.p N N (zs (N - 8))).row := by
   rw [hfl, ← hN, spl_0, leB_length, zs_drop]
   rfl
  have hpo : (Slot.p N N (zs (N - 8))).ok := ⟨hN0, hN8, hN1, zs_is _, zs_len _, by omega, by omega⟩
  have hI := h.pad m hm1' (by omega) (by rw [← hN, hm1]; omega) _ i _ hpo hN hrow
  have hP := padded (A := A) (k := k) (m := m) (i := i) (y := .p N N (zs (N - 8))) hm1' (by omega) hN rfl rfl (fun z hz => by
   have := hmZ z hz
   obtain ⟨q, qi⟩ := z
   cases q with
   | z n => exact ⟨rfl, rfl⟩
   | _ => cases this)
  rw [hm1] at hI
  exact ⟨_, _, _, _, r4, rfl, by omega, hI, hP.1, .inl hP.2⟩
end Go.Proofs.YtggjhleomocojaaGreat
